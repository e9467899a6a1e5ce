/- Turned: the walk. -/
import Derived.Test.YtiabmdboacpmcaaQn
namespace Go.Proofs.Ytiabmdboacpmcaa
open Go Go.RowKit Go.Sort
set_option maxHeartbeats 2000000

theorem PT_pv {w : World} {t : Tr} {g o : Nat} (h : PT w t g o) : ∃ y : PaV, PV w t (pav y) ∧ w.cell? ⟨g, o, none⟩ = some (.int .i64 y.1) ∧ w.cell? ⟨g, o + 1, none⟩ = some (.int .i64 y.2.1) ∧ w.cell? ⟨g, o + 2, none⟩ = some (slv y.2.2) := by
  cases t with
  | node k n ps =>
    rw [PT] at h
    obtain ⟨h1, h2, A, c, h3, h4⟩ := h
    exact ⟨(k, n, (A, ps.length, c)), ⟨_, rfl, A, c, rfl, h4⟩, h1, h2, h3⟩
theorem set3 {w : World} {b : Nat} {u0 u1 u2 : Value} (e0 : w.cell? ⟨b, 0, none⟩ = some u0) (e1 : w.cell? ⟨b, 1, none⟩ = some u1) (e2 : w.cell? ⟨b, 2, none⟩ = some u2) (x y z : Value) :
    (((w.setCell ⟨b, 0, none⟩ x).setCell ⟨b, 1, none⟩ y).setCell ⟨b, 2, none⟩ z).cell? ⟨b, 0, none⟩ = some x ∧ (((w.setCell ⟨b, 0, none⟩ x).setCell ⟨b, 1, none⟩ y).setCell ⟨b, 2, none⟩ z).cell? ⟨b, 1, none⟩ = some y ∧ (((w.setCell ⟨b, 0, none⟩ x).setCell ⟨b, 1, none⟩ y).setCell ⟨b, 2, none⟩ z).cell? ⟨b, 2, none⟩ = some z ∧ Upd (fun c => c = b) w (((w.setCell ⟨b, 0, none⟩ x).setCell ⟨b, 1, none⟩ y).setCell ⟨b, 2, none⟩ z) := by
  have n : ∀ i j : Nat, i ≠ j → (⟨b, i, none⟩ : Addr) ≠ ⟨b, j, none⟩ := fun i j h e => by simp only [Addr.mk.injEq] at e; exact h e.2.1
  have h10 : (w.setCell ⟨b, 0, none⟩ x).cell? ⟨b, 1, none⟩ = some u1 := (World.cell?_setCell_other _ _ _ _ (n 0 1 (by decide))).trans e1
  have h20 : ((w.setCell ⟨b, 0, none⟩ x).setCell ⟨b, 1, none⟩ y).cell? ⟨b, 2, none⟩ = some u2 := (World.cell?_setCell_other _ _ _ _ (n 1 2 (by decide))).trans ((World.cell?_setCell_other _ _ _ _ (n 0 2 (by decide))).trans e2)
  refine ⟨?_, ?_, World.cell?_setCell_same _ _ _ h20, ?_⟩
  · rw [World.cell?_setCell_other _ _ _ _ (n 2 0 (by decide)), World.cell?_setCell_other _ _ _ _ (n 1 0 (by decide))]
    exact World.cell?_setCell_same _ _ _ e0
  · rw [World.cell?_setCell_other _ _ _ _ (n 2 1 (by decide))]
    exact World.cell?_setCell_same _ _ _ h10
  · exact upd_trans (upd_trans (upd_setCell (a := ⟨b, 0, none⟩) _) (upd_setCell (a := ⟨b, 1, none⟩) _) (fun _ _ h => h)) (upd_setCell (a := ⟨b, 2, none⟩) _) (fun _ _ h => h)
theorem turn_fin {w wy W9 : World} {k n : Int} {ts : List Tr} {P : Option Addr} {len d : Nat} (htr : TurnRow wy (w.heap.size + 3) ts (.slice P len d)) (hl : len = ts.length) (hE : Ext w wy) (hz : w.heap.size + 3 ≤ wy.heap.size) (hu : Upd (fun b => b = w.heap.size + 1) wy W9) :
    PVk W9 (fun b => w.heap.size ≤ b) (.node k n ts) (pav (k, n, (P, len, d))) ∧ Ext w W9 :=
  ⟨pvk_mono (pvk_upd (turnRow_node htr hl k n) hu (fun b hb e => by have e' : b = w.heap.size + 1 := e; omega)) (fun b _ hb => by omega), ext_updL hE hu (fun b e => by have e' : b = w.heap.size + 1 := e; omega)⟩
theorem block_frozenU {fp : Nat → Prop} {w w' : World} (h : Upd fp w w') {b o : Nat} (hb : b < w.heap.size) (hn : ¬ fp b) (hf : w.frozen? ⟨b, o, none⟩ = false) : w'.frozen? ⟨b, o, none⟩ = false := by
  unfold World.frozen? at hf ⊢
  rw [h.block b hb hn]
  exact hf
theorem reverse_turn {w : World} {H : Nat} {ts : List Tr} {v : Value} (h : TurnRow w H ts v) (hl : ts.length ≤ 1000000) : Calls Try.prog 68 #[v] w fun e w' => e = .returned (.tuple #[]) ∧ TurnRow w' H ts.reverse v ∧ Upd (fun b => v.ownBlock = some b) w w' ∧ w.heap.size ≤ w'.heap.size := by
  obtain ⟨xv, h1, h2, h3⟩ := h
  refine (reverse_any H v xv w h2 (by omega)).mono ?_
  rintro e w' ⟨rfl, hr, hu⟩
  refine ⟨rfl, ⟨xv.reverse, by simp [h1], hr, fun m t y ht hy => ?_⟩, hu, hu.size⟩
  have hm := (List.getElem?_eq_some_iff.1 ht).1
  rw [List.length_reverse] at hm
  rw [List.getElem?_reverse hm] at ht
  rw [List.getElem?_reverse (by omega), h1] at hy
  exact pvk_upd (h3 _ t y ht hy) hu (fun b hb => hb.2)
def TR3 (W : World) (t : Tr) (v : Value) (w' : World) : Prop := ∃ y : PaV, v = pav y ∧ PVk w' (fun b => W.heap.size ≤ b) t (pav y)
def TR4 (W : World) (t : Tr) (v : Value) (w' : World) : Prop := ∃ y : PaV, oneF elP W.heap.size y v w' ∧ PVk w' (fun b => W.heap.size ≤ b) t (pav y)
theorem turnL_take (ps : List Tr) (j : Nat) (q : Tr) (h : ps[j]? = some q) : turnL (ps.take (j + 1)) = turnL (ps.take j) ++ [turnT q] := by
  rw [turnL_map, turnL_map, List.take_add_one, h]
  simp
set_option maxRecDepth 100000 in
theorem turn_step {N : Nat} (hd : TurnAt N) (hN1 : N ≤ 100000) : TurnAt (N + 1) := by
  intro t v w hN hv
  cases t with
  | node k n ps =>
    rw [sizeT] at hN
    have hlen := sizeL_len ps
    obtain ⟨s, rfl, hs⟩ := hv
    obtain ⟨A, c, rfl⟩ := PS_form hs
    have HD := Lib.hid hd
    have HS := Lib.hid hs
    clear hd hs
    go_enter Try.func35, Try.ntmps35
    go_wp2_with fail
    have hE0 : Ext w (((w.alloc (.cells #[.int .i64 k, .int .i64 n, .slice A ps.length c] 30)).alloc (.cells #[.int .i64 0, .int .i64 0, .slice none 0 0] 30)).alloc (.cells #[.int .i64 k, .int .i64 n, .slice none 0 0] 30)) := ext_alloc (ext_alloc (ext_alloc (ext_refl _) _) _) _
    obtain ⟨W0, hW0⟩ : ∃ W0, W0 = (((w.alloc (.cells #[.int .i64 k, .int .i64 n, .slice A ps.length c] 30)).alloc (.cells #[.int .i64 0, .int .i64 0, .slice none 0 0] 30)).alloc (.cells #[.int .i64 k, .int .i64 n, .slice none 0 0] 30)) := ⟨_, rfl⟩
    obtain ⟨x1, x2, x3⟩ := heap_three w (.cells #[.int .i64 k, .int .i64 n, .slice A ps.length c] 30) (.cells #[.int .i64 0, .int .i64 0, .slice none 0 0] 30) (.cells #[.int .i64 k, .int .i64 n, .slice none 0 0] 30)
    have hz0 : W0.heap.size = w.heap.size + 3 := by rw [hW0]; simp
    rw [← hW0] at hE0 x1 x2 x3 ⊢
    have HE0 := Lib.hid hE0
    have HX1 := Lib.hid x1
    have HX2 := Lib.hid x2
    have HX3 := Lib.hid x3
    have HZ0 := Lib.hid hz0
    clear hW0 hE0 x1 x2 x3 hz0
    go_loopw [14] (fun x wr => ∃ (j : Nat) (P : Option Addr) (d : Nat), j ≤ ps.length ∧ x = .int .i64 j ∧ TurnRow wr (w.heap.size + 3) (turnL (ps.take j)) (.slice P j d) ∧ wr.heap[w.heap.size]? = some (.cells #[.int .i64 k, .int .i64 n, .slice A ps.length c] 30 (0, 0)) ∧ (∃ cs, wr.heap[w.heap.size + 1]? = some (.cells cs 30 (0, 0)) ∧ cs.size = 3) ∧ wr.heap[w.heap.size + 1 + 1]? = some (.cells #[.int .i64 k, .int .i64 n, .slice P j d] 30 (0, 0)) ∧ Ext w wr ∧ w.heap.size + 3 ≤ wr.heap.size) (fun x _ => ps.length - (intOf x).toNat)
    case atStart => exact ⟨0, none, 0, Nat.zero_le _, rfl, turnRow_nil _ _, HX1.out, ⟨_, HX2.out, rfl⟩, HX3.out, HE0.out, by rw [HZ0.out]; exact Nat.le_refl _⟩
    case round =>
      rename World => wr
      obtain ⟨j, P, d, hj, rfl, htr, hb1, hb2, hb3, hE, hsz⟩ := hrel
      have HTR := Lib.hid htr
      have HB1 := Lib.hid hb1
      have HB2 := Lib.hid hb2
      have HB3 := Lib.hid hb3
      have HE := Lib.hid hE
      have p0 : wr.cell? ⟨w.heap.size, 0, none⟩ = some (.int .i64 k) := block_cell hb1 0
      have r0 : wr.cell? ⟨w.heap.size + 1 + 1, 0, none⟩ = some (.int .i64 k) := block_cell hb3 0
      have r1 : wr.cell? ⟨w.heap.size + 1 + 1, 1, none⟩ = some (.int .i64 n) := block_cell hb3 1
      have r2 : wr.cell? ⟨w.heap.size + 1 + 1, 2, none⟩ = some (.slice P j d) := block_cell hb3 2
      have f0 := block_frozen hb3 0
      have l3 := block_lt hb3
      have l1 := block_lt hb1
      clear htr hb1 hb2 hb3 hE
      by_cases hlt : j < ps.length
      · have hji : (j : Int) < (ps.length : Int) := by omega
        have hj0 : (0 : Int) ≤ (j : Int) := by omega
        obtain ⟨q, hq⟩ : ∃ q, ps[j]? = some q := ⟨_, List.getElem?_eq_getElem hlt⟩
        have hqs := sizeL_mem (List.mem_of_getElem? hq)
        obtain ⟨g, o, hA, lg, hpt⟩ := PS_at (PS_ext HS.out HE.out) hq
        subst hA
        obtain ⟨⟨qk, qn, qs⟩, hpv, c0, c1, c2⟩ := PT_pv hpt
        obtain ⟨qA, qm, qc⟩ := qs
        simp only [slv] at c0 c1 c2
        have HPV := Lib.hid hpv
        have HQ := Lib.hid hq
        clear hpt hpv hq
        go_wp2_with fail
        have hEa := ext_alloc (ext_refl wr) (.cells #[.int .i64 qk, .int .i64 qn, .slice qA qm qc] 30)
        have hBa := heap_alloc_new wr (.cells #[.int .i64 qk, .int .i64 qn, .slice qA qm qc] 30)
        obtain ⟨wa, hwa⟩ : ∃ wa, wa = wr.alloc (.cells #[.int .i64 qk, .int .i64 qn, .slice qA qm qc] 30) := ⟨_, rfl⟩
        have hsza : wa.heap.size = wr.heap.size + 1 := by rw [hwa]; simp
        rw [← hwa] at hEa hBa ⊢
        obtain ⟨pa, hpa⟩ : ∃ pa, pa = wr.heap.size := ⟨_, rfl⟩
        rw [← hpa] at hBa ⊢
        have hb3a := (ext_block hEa (block_lt HB3.out)).trans HB3.out
        have r2a : wa.cell? ⟨w.heap.size + 1 + 1, 2, none⟩ = some (.slice P j d) := block_cell hb3a 2
        have a0 : wa.cell? ⟨pa, 0, none⟩ = some (.int .i64 qk) := block_cell hBa 0
        have a1 : wa.cell? ⟨pa, 1, none⟩ = some (.int .i64 qn) := block_cell hBa 1
        have a2 : wa.cell? ⟨pa, 2, none⟩ = some (.slice qA qm qc) := block_cell hBa 2
        have HTRa := Lib.hid (turnRow_ext HTR.out hEa)
        have hown := turnRow_own HTR.out
        have nf1 : ¬ (Value.slice P j d).ownBlock = some (w.heap.size + 1 + 1) := fun e => by have := (hown _ e).1; omega
        have nfa : ¬ (Value.slice P j d).ownBlock = some pa := fun e => by have := (hown _ e).2; omega
        have s2 : ∀ pw : UW (fun b => (Value.slice P j d).ownBlock = some b) wa, pw.val.cell? ⟨w.heap.size + 1 + 1, 2, none⟩ = some (.slice P j d) := uw_cell r2a nf1
        have s3 : ∀ pw : UW (fun b => (Value.slice P j d).ownBlock = some b) wa, pw.val.cell? ⟨pa, 0, none⟩ = some (.int .i64 qk) := uw_cell a0 nfa
        have s4 : ∀ pw : UW (fun b => (Value.slice P j d).ownBlock = some b) wa, pw.val.cell? ⟨pa, 1, none⟩ = some (.int .i64 qn) := uw_cell a1 nfa
        have s5 : ∀ pw : UW (fun b => (Value.slice P j d).ownBlock = some b) wa, pw.val.cell? ⟨pa, 2, none⟩ = some (.slice qA qm qc) := uw_cell a2 nfa
        have HOWN := Lib.hid hown
        have HB1a := Lib.hid ((ext_block hEa (block_lt HB1.out)).trans HB1.out)
        have HB3a := Lib.hid hb3a
        have HEa := Lib.hid hEa
        have HSZa := Lib.hid hsza
        have HNF1 := Lib.hid nf1
        clear hwa hBa hpa hown nf1 nfa r2a a0 a1 a2 hb3a hEa hsza p0 r0 r1 r2 f0 c0 c1 c2
        refine wp_region_upd (fp := fun b => (Value.slice P j d).ownBlock = some b) [] [0, 1, 2] [(3, TR3 wa (turnT q)), (4, TR4 wa (turnT q))] 5 (fun v w' => TurnRow w' (w.heap.size + 3) (turnL (ps.take (j + 1))) v) [6, 7] [3, 4, 5] rfl (by kernel_rfl) (by kernel_rfl) (by kernel_rfl) (fun _ _ d _ _ h => by cases d <;> exact h) ?_
        refine wpPre_nil ?_
        repeat (refine wpU_step rfl (fun K hK => ?_); (try simp only [Oper.quietAt, Oper.quietUpon]); go_simp; (refine hK _ ?_; clear hK K))
        refine wpU_nil ?_
        refine wpGen_step rfl rfl (fun v a b hE ⟨y, h1, h2⟩ => ⟨y, h1, pvk_ext h2 hE⟩) (fun w6 hE6 hS6 => ?_) (fun v3 => ?_)
        · simp only [runsAt]
          go_simp
          refine (HD.out q _ w6 (by omega) (PV_ext HPV.out (ext_trans HEa.out hE6))).mono ?_
          rintro e w7 ⟨y, rfl, h1, h2⟩
          exact ⟨_, rfl, h2, y, rfl, pvk_mono h1 (fun b _ hb => Nat.le_trans (ext_size hE6) hb)⟩
        refine wpGen_step rfl rfl (fun v a b hE ⟨y, h1, h2⟩ => ⟨y, oneF_ext _ _ _ hE h1, pvk_ext h2 hE⟩) (fun w6 hE6 hS6 => ?_) (fun v4 => ?_)
        · obtain ⟨y, rfl, h1⟩ := hS6 _ (List.mem_cons_self ..) (by kernel_rfl)
          simp only [runsAt, pav, slv]
          go_simp
          exact ⟨ext_alloc (ext_refl _) _, y, ⟨_, rfl, ext_size hE6, heap_alloc_new w6 _⟩, pvk_ext h1 (ext_alloc (ext_refl _) _)⟩
        refine wpGen_nil ?_
        refine ⟨⟨_, rfl, rfl, fun v a b hE hR => turnRow_ext hR hE⟩, fun w6 hE6 hS6 o ho => ?_, fun o ho v w6 hU6 hR6 => ?_⟩
        · cases ho
          obtain ⟨y, h1, h2⟩ := hS6 _ (List.mem_cons_self ..)
          refine runs_append (sv := .slice P j d) (xv := v4) (.tmp 19) (.tmp 22) rfl rfl rfl ?_
          obtain ⟨v', w', hrun, hu, hr⟩ := turnRow_add (turnRow_ext HTRa.out hE6) (srcOf_one h1) (t := turnT q) (y := y) (pvk_mono h2 (fun b _ hb => ⟨by have := HSZa.out; omega, fun e => by have := (HOWN.out b e).2; have := HSZa.out; omega⟩)) (by rw [turnL_length]; have := List.length_take_le j ps; omega) (by have := ext_size hE6; have := HSZa.out; omega) 28
          exact ⟨v', w', hrun, hu, by rw [turnL_take ps j q HQ.out]; exact hr⟩
        · cases ho
          have hr6 : TurnRow w6 (w.heap.size + 3) (turnL (ps.take (j + 1))) v := hR6
          obtain ⟨A6, c6, hv6⟩ := turnRow_form hr6
          have hl6 : (turnL (ps.take (j + 1))).length = j + 1 := by rw [turnL_length, List.length_take]; omega
          rw [hl6] at hv6
          subst hv6
          have hpb6 := (hU6.block (w.heap.size + 1 + 1) (by have := HSZa.out; omega) HNF1.out).trans HB3a.out
          have y3 : w6.cell? ⟨w.heap.size + 1 + 1, 2, none⟩ = some (.slice P j d) := s2 ⟨w6, hU6⟩
          have f3 := block_frozen hpb6 2
          have lp6 := block_lt hpb6
          have hUF : Upd (fun b => b = w.heap.size + 1 + 1) w6 (w6.setCell ⟨w.heap.size + 1 + 1, 2, none⟩ (.slice A6 (j + 1) c6)) := upd_setCell (a := ⟨w.heap.size + 1 + 1, 2, none⟩) _
          have HPB6 := Lib.hid (show (w6.setCell ⟨w.heap.size + 1 + 1, 2, none⟩ (.slice A6 (j + 1) c6)).heap[w.heap.size + 1 + 1]? = some (.cells #[.int .i64 k, .int .i64 n, .slice A6 (j + 1) c6] 30 (0, 0)) from heap_setCell_at hpb6)
          have HR6 := Lib.hid (show TurnRow (w6.setCell ⟨w.heap.size + 1 + 1, 2, none⟩ (.slice A6 (j + 1) c6)) (w.heap.size + 3) (turnL (ps.take (j + 1))) (.slice A6 (j + 1) c6) from turnRow_upd hr6 hUF (fun b e => by have e' : b = w.heap.size + 1 + 1 := e; omega))
          have hEx : Ext w w6 := ext_updL (ext_trans HE.out HEa.out) hU6 (fun b hb => by have := (HOWN.out b hb).1; omega)
          have HX6 := Lib.hid (show Ext w (w6.setCell ⟨w.heap.size + 1 + 1, 2, none⟩ (.slice A6 (j + 1) c6)) from ext_set hEx (by show w.heap.size ≤ w.heap.size + 1 + 1; omega) _)
          have hb1x := (hU6.block w.heap.size (by have := HSZa.out; omega) (fun e => by have := (HOWN.out _ e).1; omega)).trans HB1a.out
          have HB1x := Lib.hid ((hUF.block _ (block_lt hb1x) (by show ¬ w.heap.size = w.heap.size + 1 + 1; omega)).trans hb1x)
          have HB2x : Hid (∃ cs, (w6.setCell ⟨w.heap.size + 1 + 1, 2, none⟩ (.slice A6 (j + 1) c6)).heap[w.heap.size + 1]? = some (.cells cs 30 (0, 0)) ∧ cs.size = 3) := Lib.hid (by
            obtain ⟨cs, h1, h2⟩ := HB2.out
            have h3 := (ext_block HEa.out (block_lt h1)).trans h1
            have h4 := (hU6.block _ (block_lt h3) (fun e => by have := (HOWN.out _ e).1; omega)).trans h3
            exact ⟨cs, (hUF.block _ (block_lt h4) (by show ¬ w.heap.size + 1 = w.heap.size + 1 + 1; omega)).trans h4, h2⟩)
          have HZX := Lib.hid (show w.heap.size + 3 ≤ (w6.setCell ⟨w.heap.size + 1 + 1, 2, none⟩ (.slice A6 (j + 1) c6)).heap.size from by have h1 := hU6.size; have h2 := hUF.size; have := HSZa.out; omega)
          clear s2 s3 s4 s5 hr6 hU6 hR6 hpb6 hl6 hUF hEx hb1x
          refine wpSeq_of_list [6, 7] [_, _] _ _ rfl ?_
          go_wp2
          go_roundw
          case rel => exact ⟨j + 1, A6, c6, by omega, by go_num, HR6.out, HB1x.out, HB2x.out, HPB6.out, HX6.out, HZX.out⟩
          case measure => simp [intOf]; omega
      · obtain rfl : j = ps.length := by omega
        rw [List.take_length] at HTR
        have hji : ¬ ((ps.length : Nat) : Int) < ((ps.length : Nat) : Int) := by omega
        obtain ⟨cs, hcs, hcz⟩ := HB2.out
        obtain ⟨u0, hu0⟩ : ∃ u, cs[0]? = some u := ⟨_, Array.getElem?_eq_getElem (by omega)⟩
        obtain ⟨u1, hu1⟩ : ∃ u, cs[1]? = some u := ⟨_, Array.getElem?_eq_getElem (by omega)⟩
        obtain ⟨u2, hu2⟩ : ∃ u, cs[2]? = some u := ⟨_, Array.getElem?_eq_getElem (by omega)⟩
        have e0 := (block_cell hcs 0).trans hu0
        have e1 := (block_cell hcs 1).trans hu1
        have e2 := (block_cell hcs 2).trans hu2
        have g0 := block_frozen hcs 0
        have g1 := block_frozen hcs 1
        have g2 := block_frozen hcs 2
        have l2 := block_lt hcs
        clear hcs hcz hu0 hu1 hu2
        by_cases h0 : k = 0
        · subst h0
          have wB : ∃ W, W = wr.setCell ⟨w.heap.size + 1 + 1, 0, none⟩ (.int .i64 1) := ⟨_, rfl⟩
          obtain ⟨WB, hWB⟩ := wB
          have hne : ∀ o, (⟨w.heap.size + 1 + 1, 0, none⟩ : Addr) ≠ ⟨w.heap.size + 1, o, none⟩ := fun o e => by simp only [Addr.mk.injEq] at e; omega
          have hUB : Upd (fun b => b = w.heap.size + 1 + 1) wr WB := by rw [hWB]; exact upd_setCell (a := ⟨w.heap.size + 1 + 1, 0, none⟩) _
          have HE0 : Hid (WB.cell? ⟨w.heap.size + 1, 0, none⟩ = some u0) := Lib.hid (by rw [hWB]; exact (World.cell?_setCell_other _ _ _ _ (hne 0)).trans e0)
          have HE1 : Hid (WB.cell? ⟨w.heap.size + 1, 1, none⟩ = some u1) := Lib.hid (by rw [hWB]; exact (World.cell?_setCell_other _ _ _ _ (hne 1)).trans e1)
          have HE2 : Hid (WB.cell? ⟨w.heap.size + 1, 2, none⟩ = some u2) := Lib.hid (by rw [hWB]; exact (World.cell?_setCell_other _ _ _ _ (hne 2)).trans e2)
          have HTB := Lib.hid (turnRow_upd HTR.out hUB (fun b e => by have e' : b = w.heap.size + 1 + 1 := e; omega))
          have HXB := Lib.hid (ext_updL HE.out hUB (fun b e => by have e' : b = w.heap.size + 1 + 1 := e; omega))
          have HZB := Lib.hid (Nat.le_trans hsz hUB.size)
          clear hUB hne
          go_wp2
          rw [← hWB]
          obtain ⟨W9, hW9⟩ : ∃ W9, W9 = (((WB.setCell ⟨w.heap.size + 1, 0, none⟩ (.int .i64 1)).setCell ⟨w.heap.size + 1, 1, none⟩ (.int .i64 n)).setCell ⟨w.heap.size + 1, 2, none⟩ (.slice P ps.length d)) := ⟨_, rfl⟩
          rw [← hW9]
          obtain ⟨z0, z1, z2, hu9⟩ := set3 HE0.out HE1.out HE2.out (.int .i64 1) (.int .i64 n) (.slice P ps.length d)
          rw [← hW9] at z0 z1 z2 hu9
          clear hW9
          refine bodyPost_ret (v := pav (1, n, (P, ps.length, d))) (by simp [results, Try.results35, go_sem, z0, z1, z2, pav, slv]) rfl ?_
          obtain ⟨hp, hx⟩ := turn_fin (k := 1) (n := n) HTB.out (by simp [turnL_length]) HXB.out HZB.out hu9
          exact ⟨_, rfl, by rw [turnT]; simpa using hp, hx⟩
        by_cases h1 : k = 1
        · subst h1
          have wB : ∃ W, W = wr.setCell ⟨w.heap.size + 1 + 1, 0, none⟩ (.int .i64 0) := ⟨_, rfl⟩
          obtain ⟨WB, hWB⟩ := wB
          have hne : ∀ o, (⟨w.heap.size + 1 + 1, 0, none⟩ : Addr) ≠ ⟨w.heap.size + 1, o, none⟩ := fun o e => by simp only [Addr.mk.injEq] at e; omega
          have hUB : Upd (fun b => b = w.heap.size + 1 + 1) wr WB := by rw [hWB]; exact upd_setCell (a := ⟨w.heap.size + 1 + 1, 0, none⟩) _
          have HE0 : Hid (WB.cell? ⟨w.heap.size + 1, 0, none⟩ = some u0) := Lib.hid (by rw [hWB]; exact (World.cell?_setCell_other _ _ _ _ (hne 0)).trans e0)
          have HE1 : Hid (WB.cell? ⟨w.heap.size + 1, 1, none⟩ = some u1) := Lib.hid (by rw [hWB]; exact (World.cell?_setCell_other _ _ _ _ (hne 1)).trans e1)
          have HE2 : Hid (WB.cell? ⟨w.heap.size + 1, 2, none⟩ = some u2) := Lib.hid (by rw [hWB]; exact (World.cell?_setCell_other _ _ _ _ (hne 2)).trans e2)
          have HTB := Lib.hid (turnRow_upd HTR.out hUB (fun b e => by have e' : b = w.heap.size + 1 + 1 := e; omega))
          have HXB := Lib.hid (ext_updL HE.out hUB (fun b e => by have e' : b = w.heap.size + 1 + 1 := e; omega))
          have HZB := Lib.hid (Nat.le_trans hsz hUB.size)
          clear hUB hne
          go_wp2
          rw [← hWB]
          obtain ⟨W9, hW9⟩ : ∃ W9, W9 = (((WB.setCell ⟨w.heap.size + 1, 0, none⟩ (.int .i64 0)).setCell ⟨w.heap.size + 1, 1, none⟩ (.int .i64 n)).setCell ⟨w.heap.size + 1, 2, none⟩ (.slice P ps.length d)) := ⟨_, rfl⟩
          rw [← hW9]
          obtain ⟨z0, z1, z2, hu9⟩ := set3 HE0.out HE1.out HE2.out (.int .i64 0) (.int .i64 n) (.slice P ps.length d)
          rw [← hW9] at z0 z1 z2 hu9
          clear hW9
          refine bodyPost_ret (v := pav (0, n, (P, ps.length, d))) (by simp [results, Try.results35, go_sem, z0, z1, z2, pav, slv]) rfl ?_
          obtain ⟨hp, hx⟩ := turn_fin (k := 0) (n := n) HTB.out (by simp [turnL_length]) HXB.out HZB.out hu9
          exact ⟨_, rfl, by rw [turnT]; simpa using hp, hx⟩
        by_cases h2 : k = 2
        · subst h2
          go_wp2_with fail
          refine (reverse_turn HTR.out (by rw [turnL_length]; omega)).mono ?_
          rintro e w9 ⟨rfl, htr9, hu9, hz9⟩
          have hown := turnRow_own HTR.out
          have x3 := (hu9.block _ (block_lt HB3.out) (fun e => by have := (hown _ e).1; omega)).trans HB3.out
          have nb2 : ¬ (Value.slice P ps.length d).ownBlock = some (w.heap.size + 1) := fun e => by have := (hown _ e).1; omega
          have nb3 : ¬ (Value.slice P ps.length d).ownBlock = some (w.heap.size + 1 + 1) := fun e => by have := (hown _ e).1; omega
          have HE0 := Lib.hid ((upd_cell hu9 l2 nb2 0).trans e0)
          have HE1 := Lib.hid ((upd_cell hu9 l2 nb2 1).trans e1)
          have HE2 := Lib.hid ((upd_cell hu9 l2 nb2 2).trans e2)
          replace g0 := block_frozenU hu9 l2 nb2 g0
          replace g1 := block_frozenU hu9 l2 nb2 g1
          replace g2 := block_frozenU hu9 l2 nb2 g2
          replace e0 := HE0.out
          replace e1 := HE1.out
          replace e2 := HE2.out
          replace r0 : w9.cell? ⟨w.heap.size + 1 + 1, 0, none⟩ = some (.int .i64 2) := block_cell x3 0
          replace r1 : w9.cell? ⟨w.heap.size + 1 + 1, 1, none⟩ = some (.int .i64 n) := block_cell x3 1
          replace r2 : w9.cell? ⟨w.heap.size + 1 + 1, 2, none⟩ = some (.slice P ps.length d) := block_cell x3 2
          replace l2 := Nat.lt_of_lt_of_le l2 hu9.size
          replace l3 := Nat.lt_of_lt_of_le l3 hu9.size
          have HTB := Lib.hid htr9
          have HXB := Lib.hid (ext_updL HE.out hu9 (fun b hb => by have := (hown b hb).1; omega))
          have HZB := Lib.hid (Nat.le_trans hsz hu9.size)
          clear hu9 hown htr9 x3 nb2 nb3 p0 f0 hz9
          go_wp2
          obtain ⟨W9, hW9⟩ : ∃ W9, W9 = (((w9.setCell ⟨w.heap.size + 1, 0, none⟩ (.int .i64 2)).setCell ⟨w.heap.size + 1, 1, none⟩ (.int .i64 n)).setCell ⟨w.heap.size + 1, 2, none⟩ (.slice P ps.length d)) := ⟨_, rfl⟩
          rw [← hW9]
          obtain ⟨z0, z1, z2, hu9⟩ := set3 HE0.out HE1.out HE2.out (.int .i64 2) (.int .i64 n) (.slice P ps.length d)
          rw [← hW9] at z0 z1 z2 hu9
          clear hW9
          refine bodyPost_ret (v := pav (2, n, (P, ps.length, d))) (by simp [results, Try.results35, go_sem, z0, z1, z2, pav, slv]) rfl ?_
          obtain ⟨hp, hx⟩ := turn_fin (k := 2) (n := n) HTB.out (by simp [turnL_length]) HXB.out HZB.out hu9
          exact ⟨_, rfl, by rw [turnT]; simpa using hp, hx⟩
        · have n0 : (k == 0) = false := by rw [beq_eq_false_iff_ne]; exact h0
          have n1 : (k == 1) = false := by rw [beq_eq_false_iff_ne]; exact h1
          have n2 : (k == 2) = false := by rw [beq_eq_false_iff_ne]; exact h2
          have HE0 := Lib.hid e0
          have HE1 := Lib.hid e1
          have HE2 := Lib.hid e2
          have HTB := HTR
          have HXB := HE
          have HZB := Lib.hid hsz
          clear h0 h1 h2
          go_wp2
          obtain ⟨W9, hW9⟩ : ∃ W9, W9 = (((wr.setCell ⟨w.heap.size + 1, 0, none⟩ (.int .i64 k)).setCell ⟨w.heap.size + 1, 1, none⟩ (.int .i64 n)).setCell ⟨w.heap.size + 1, 2, none⟩ (.slice P ps.length d)) := ⟨_, rfl⟩
          rw [← hW9]
          obtain ⟨z0, z1, z2, hu9⟩ := set3 HE0.out HE1.out HE2.out (.int .i64 k) (.int .i64 n) (.slice P ps.length d)
          rw [← hW9] at z0 z1 z2 hu9
          clear hW9
          refine bodyPost_ret (v := pav (k, n, (P, ps.length, d))) (by simp [results, Try.results35, go_sem, z0, z1, z2, pav, slv]) rfl ?_
          obtain ⟨hp, hx⟩ := turn_fin (k := k) (n := n) HTB.out (by simp [turnL_length]) HXB.out HZB.out hu9
          exact ⟨_, rfl, by rw [turnT, if_neg (by simpa using n0), if_neg (by simpa using n1), if_neg (by simpa using n2)]; exact hp, hx⟩
theorem turn_all : ∀ N : Nat, N ≤ 100000 → TurnAt N
  | 0, _ => fun t v w hN => by have := sizeT_pos t; omega
  | N + 1, h => turn_step (turn_all N (by omega)) (by omega)
theorem turned_any (t : Tr) (v : Value) (w : World) (hN : sizeT t ≤ 100000) (hv : PV w t v) : Calls Try.prog 35 #[v] w fun e w' => ∃ (k n : Int) (A : Option Addr) (m c : Nat), e = .returned (.agg #[.int .i64 k, .int .i64 n, .slice A m c]) ∧ PV w' (turnT t) (.agg #[.int .i64 k, .int .i64 n, .slice A m c]) ∧ Ext w w' := by
  refine (turn_all 100000 (Nat.le_refl _) t v w hN hv).mono ?_
  rintro e w' ⟨⟨k, n, A, m, c⟩, rfl, h1, h2⟩
  exact ⟨k, n, A, m, c, rfl, pvk_pv h1, h2⟩
end Go.Proofs.Ytiabmdboacpmcaa
