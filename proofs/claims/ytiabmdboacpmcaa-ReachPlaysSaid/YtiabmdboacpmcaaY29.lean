/- Texts joined: Lg Lh Li. -/
import Derived.Test.YtiabmdboacpmcaaY28
import Derived.Test.YtiabmdboacpmcaaY25
/- The document's Leads: a step, forth or back. -/
namespace Go.Proofs.Ytiabmdboacpmcaa
open Go Go.RowKit Go.Sort Go.WideMaps Go.Maps
set_option maxHeartbeats 4000000

def LeadTo (t : Tr) (E : List Ed) (Ns : List Int) (w : World) (e : Ending) (w' : World) : Prop := ∃ g gs m K, K = Ns.length ∧ e = .returned (mval g K) ∧ MatAt w.heap.size K g gs m w' ∧ MatOf (Words t) (grOf E) Ns m ∧ Ext w w'
structure LeadC (E : List Ed) (Ns : List Int) (ve vn : Value) (w : World) : Prop where
  row : rowE elDr w ve E
  nrow : rowE elJ w vn Ns
  nd : KeysNd E
  top : ∀ e ∈ E, e.2 ≤ forever
  nodes : NodesOf (grOf E) Ns
  len : Ns.length ≤ 200
  el : E.length ≤ 100
theorem leadC_ext {E : List Ed} {Ns : List Int} {ve vn : Value} {w w' : World} (h : LeadC E Ns ve vn w) (hE : Ext w w') : LeadC E Ns ve vn w' := ⟨rowE_ext h.row hE, rowE_ext h.nrow hE, h.nd, h.top, h.nodes, h.len, h.el⟩
def LeadsAt (N : Nat) : Prop := ∀ (t : Tr) (rb n x : Nat) (E : List Ed) (ve vn : Value) (Ns : List Int) (w : World), sizeT t ≤ N → Form t → n ≤ 100 → Lst w rb n t x → LeadC E Ns ve vn w → Calls Try.prog 79 #[.slice (some ⟨rb, 0, none⟩) n n, .int .i64 (x : Int), ve, vn] w (LeadTo t E Ns w)
theorem node_place {E : List Ed} {Ns : List Int} {n : Int} (hN : NodesOf (grOf E) Ns) (h : isNode (grOf E) n) : ∃ i : Nat, Ns[i]? = some n ∧ ∀ j, j < i → Ns[j]? ≠ some n := by
  obtain ⟨i, hi⟩ := List.getElem?_of_mem ((hN.mem n).2 h)
  exact ⟨i, hi, fun j hj hc => by have := nodup_at hN.nodup hi hc; omega⟩
set_option maxRecDepth 100000 in
theorem lead_base0 (m : Int) (rb n x : Nat) (E : List Ed) (ve vn : Value) (Ns : List Int) (w : World) (_hn : n ≤ 100) (hl : Lst w rb n (.node 0 m []) x) (hc : LeadC E Ns ve vn w) : Calls Try.prog 79 #[.slice (some ⟨rb, 0, none⟩) n n, .int .i64 (x : Int), ve, vn] w (LeadTo (.node 0 m []) E Ns w) := by
  have HL := Lib.hid hl
  have HC := Lib.hid hc
  obtain ⟨K, hK⟩ : ∃ K, K = Ns.length := ⟨_, rfl⟩
  have hKl : K ≤ 200 := by rw [hK]; exact hc.len
  have HK := Lib.hid hK
  obtain ⟨Ae, ce, hve⟩ := rowE_form hc.row
  obtain ⟨An, cn, hvn⟩ := rowE_form hc.nrow
  obtain ⟨ne, hne⟩ : ∃ n, n = E.length := ⟨_, rfl⟩
  have hnel : ne ≤ 100 := by rw [hne]; exact hc.el
  rw [← hne] at hve
  rw [← hK] at hvn
  subst hve
  subst hvn
  have HNE := Lib.hid hne
  obtain ⟨hx, lrb, h1, h2, A, c, h3, hcp, hch⟩ := lst_node hl
  have hxi : (x : Int) < (n : Int) := by omega
  have hx0 : (0 : Int) ≤ (x : Int) := by omega
  obtain ⟨np, hnp⟩ : ∃ q, q = ([] : List Tr).length := ⟨_, rfl⟩
  rw [← hnp] at h3 hcp
  have HNP := Lib.hid hnp
  obtain ⟨W, hW⟩ : ∃ W, W = w.alloc (.cells #[.int .i64 0, .int .i64 m, .slice A np c] 102) := ⟨_, rfl⟩
  have hE0 : Ext w W := by rw [hW]; exact ext_alloc (ext_refl _) _
  obtain ⟨p9, hp9⟩ : ∃ p, p = w.heap.size := ⟨_, rfl⟩
  have hB0 : W.heap[p9]? = some (.cells #[.int .i64 0, .int .i64 m, .slice A np c] 102 (0, 0)) := by rw [hW, hp9]; exact heap_alloc_new _ _
  have HE0 := Lib.hid hE0
  have HB0 := Lib.hid hB0
  have HW := Lib.hid (And.intro hW hp9)
  have HWS := Lib.hid (show w.heap.size ≤ W.heap.size from ext_size hE0)
  have H3 := Lib.hid h3
  clear hl hc hK hne hx hch hnp hW hE0 hp9 hB0
  go_enter Try.func79, Try.ntmps79
  go_wp2_with fail
  rw [← HW.out.1, ← HW.out.2]
  refine (empty_mat K W hKl).mono ?_
  rintro e w1 ⟨g0, gs0, rfl, hM0, hE1⟩
  have HM0 := Lib.hid hM0
  have HE1 := Lib.hid hE1
  have hb1 := (ext_block hE1 (block_lt HB0.out)).trans HB0.out
  have b0 := block_cell hb1 0
  have b1 := block_cell hb1 1
  have b2 := block_cell hb1 2
  have bl := block_lt hb1
  clear hM0 hE1 hb1 h1 h2 h3 lrb
  go_wp2
  go_loopw [35] (fun y wr => ∃ i : Nat, i ≤ ne ∧ y = .int .i64 (i : Int) ∧ (∃ M, MatAt W.heap.size K g0 gs0 M wr ∧ BaseI 0 m Ns (E.take i) M) ∧ Ext W wr) (fun y _ => ne - (intOf y).toNat)
  case atStart => exact ⟨0, by omega, rfl, ⟨noneM, HM0.out, base_nil _ _ _⟩, HE1.out⟩
  case round =>
    rename World => wr
    obtain ⟨i, hi, rfl, ⟨M, hM, hI⟩, hE⟩ := hrel
    have HM := Lib.hid hM
    have HI := Lib.hid hI
    have HE := Lib.hid hE
    clear hM hI hE b0 b1 b2 bl
    have hbr := (ext_block HE.out (block_lt HB0.out)).trans HB0.out
    by_cases hlt : i < ne
    · have hii : (i : Int) < (ne : Int) := by omega
      have hi0 : (0 : Int) ≤ (i : Int) := by omega
      obtain ⟨ed, hed⟩ : ∃ x, E[i]? = some x := ⟨_, List.getElem?_eq_getElem (by rw [← HNE.out]; exact hlt)⟩
      have hri := rowE_ext HC.out.row (ext_trans HE0.out HE.out)
      obtain ⟨ge, rfl, lge⟩ := rowE_some hri (fun e => by rw [e] at hed; simp at hed)
      have e0 : wr.cell? ⟨ge, i * 4, none⟩ = some (.int .i64 ed.1.a) := rowE_cell hri hed (j := 0) (u := .int .i64 ed.1.a) rfl
      have e1 : wr.cell? ⟨ge, i * 4 + 1, none⟩ = some (.int .i64 ed.1.b) := rowE_cell hri hed (j := 1) (u := .int .i64 ed.1.b) rfl
      have e2 : wr.cell? ⟨ge, i * 4 + 2, none⟩ = some (.int .i64 ed.1.c) := rowE_cell hri hed (j := 2) (u := .int .i64 ed.1.c) rfl
      have e3 : wr.cell? ⟨ge, i * 4 + 3, none⟩ = some (.int .i64 ed.2) := rowE_cell hri hed (j := 3) (u := .int .i64 ed.2) rfl
      have HTK := Lib.hid (show E.take (i + 1) = E.take i ++ [ed] from by rw [List.take_add_one, hed, Option.toList_some])
      have hmem := List.mem_of_getElem? hed
      obtain ⟨⟨ka, kb, kc⟩, u⟩ := ed
      simp only at e0 e1 e2 e3
      have hnode : isNode (grOf E) ka ∧ isNode (grOf E) kc := ⟨⟨_, u, (grOf_some HC.out.nd).2 hmem, .inl rfl⟩, ⟨_, u, (grOf_some HC.out.nd).2 hmem, .inr rfl⟩⟩
      obtain ⟨pa, hpa, hpa'⟩ := node_place HC.out.nodes hnode.1
      obtain ⟨pc, hpc, hpc'⟩ := node_place HC.out.nodes hnode.2
      have HPA := Lib.hid (And.intro hpa hpa')
      have HPC := Lib.hid (And.intro hpc hpc')
      have hpal : pa < K := by rw [HK.out]; exact (List.getElem?_eq_some_iff.1 hpa).1
      have hpcl : pc < K := by rw [HK.out]; exact (List.getElem?_eq_some_iff.1 hpc).1
      obtain ⟨W2, hW2⟩ : ∃ W2, W2 = wr.alloc (.cells #[.int .i64 ka, .int .i64 kb, .int .i64 kc, .int .i64 u] 75) := ⟨_, rfl⟩
      have hE2 : Ext wr W2 := by rw [hW2]; exact ext_alloc (ext_refl _) _
      obtain ⟨be, hbe⟩ : ∃ b, b = wr.heap.size := ⟨_, rfl⟩
      have hB2 : W2.heap[be]? = some (.cells #[.int .i64 ka, .int .i64 kb, .int .i64 kc, .int .i64 u] 75 (0, 0)) := by rw [hW2, hbe]; exact heap_alloc_new _ _
      have HB2 := Lib.hid hB2
      have HE2 := Lib.hid (ext_trans HE.out hE2)
      have HM2 := Lib.hid (matK_ext HM.out hE2)
      have HW2 := Lib.hid (And.intro hW2 hbe)
      have b0 := block_cell hbr 0
      have b1 := block_cell hbr 1
      have b2 := block_cell hbr 2
      have bl := block_lt hbr
      clear hed hri hmem hnode hpa hpa' hpc hpc' hW2 hE2 hbe hB2 hbr
      by_cases hkb : kb = m
      · have hne : (kb != m) = false := by simp [hkb]
        have HKB := Lib.hid hkb
        clear hkb
        go_wp2
        rw [← HW2.out.1, ← HW2.out.2]
        have HCA := Lib.hid (fun w' (hE' : Ext W2 w') => place_any Ns _ ka pa w' (rowE_ext HC.out.nrow (ext_trans HE0.out (ext_trans HE2.out hE'))) HPA.out.1 HPA.out.2 (Nat.le_trans HC.out.len (by omega)))
        have HCC := Lib.hid (fun w' (hE' : Ext W2 w') => place_any Ns _ kc pc w' (rowE_ext HC.out.nrow (ext_trans HE0.out (ext_trans HE2.out hE'))) HPC.out.1 HPC.out.2 (Nat.le_trans HC.out.len (by omega)))
        clear e0 e1 e2 e3 lge b0 b1 b2 bl
        have k0 := block_cell HB2.out 0
        have k1 := block_cell HB2.out 1
        have k2 := block_cell HB2.out 2
        have k3 := block_cell HB2.out 3
        have lk := block_lt HB2.out
        have hgc := cell_grown
        refine wp_region_free 12 [0, 1, 2, 3, 4, 5, 6, 7, 8, 9, 10, 11] [] (by kernel_rfl) (by kernel_rfl) ?_
        iterate 4 (refine wpLoose_step rfl (fun K hK => ?_); (try simp only [Oper.quietAt, Oper.quietUpon]); go_simp; (refine hK _ ?_; clear hK K))
        (refine wpLoose_step rfl (fun K hK => ?_); (try simp only [Oper.quietAt, Oper.quietUpon]); go_simp; apply Exists.intro; refine ⟨fun p => ?_, hK _ ?_⟩; (go_at_call 99; refine (HCA.out _ (ext_grow (ext_refl _) _ _)).mono ?_; rintro e w' ⟨rfl, hw'⟩; exact ⟨rfl, by rw [hw']; exact ext_refl _⟩); clear hK K)
        iterate 4 (refine wpLoose_step rfl (fun K hK => ?_); (try simp only [Oper.quietAt, Oper.quietUpon]); go_simp; (refine hK _ ?_; clear hK K))
        (refine wpLoose_step rfl (fun K hK => ?_); (try simp only [Oper.quietAt, Oper.quietUpon]); go_simp; apply Exists.intro; refine ⟨fun p => ?_, hK _ ?_⟩; (go_at_call 99; refine (HCC.out _ (ext_grow (ext_refl _) _ _)).mono ?_; rintro e w' ⟨rfl, hw'⟩; exact ⟨rfl, by rw [hw']; exact ext_refl _⟩); clear hK K)
        iterate 2 (refine wpLoose_step rfl (fun K hK => ?_); (try simp only [Oper.quietAt, Oper.quietUpon]); go_simp; (refine hK _ ?_; clear hK K))
        refine wpLoose_nil (wpFresh_nil (fun W3 hE3 _ => ?_))
        simp only [List.drop_succ_cons, List.drop_zero]
        have HM3 := Lib.hid (matK_ext HM2.out hE3)
        have hb3 := (ext_block hE3 (block_lt HB2.out)).trans HB2.out
        have HB3 := Lib.hid hb3
        have HE3 := Lib.hid (ext_trans HE2.out hE3)
        have hbr := (ext_block HE3.out (block_lt HB0.out)).trans HB0.out
        clear k0 k1 k2 k3 lk hgc hE3
        have b0 := block_cell hbr 0
        have b1 := block_cell hbr 1
        have b2 := block_cell hbr 2
        have bl := block_lt hbr
        clear hb3 hbr
        obtain ⟨pr, hpr⟩ : ∃ p, p = pa := ⟨_, rfl⟩
        obtain ⟨pt, hpt⟩ : ∃ p, p = pc := ⟨_, rfl⟩
        have hprl : pr < K := by rw [hpr]; exact hpal
        have hptl : pt < K := by rw [hpt]; exact hpcl
        have HPP := Lib.hid (And.intro hpr hpt)
        clear hpal hpcl
        go_wp2
        rw [← HPP.out.1, ← HPP.out.2]
        clear b0 b1 b2 bl hpr hpt
        obtain ⟨q0, c0, c1, -, lg, li⟩ := mat_cell HM3.out hprl hptl
        obtain ⟨cu, hcu⟩ : ∃ c, c = M pr pt := ⟨_, rfl⟩
        rw [← hcu] at c0 c1
        have k3 := block_cell HB3.out 3
        have lk := block_lt HB3.out
        have HCB := Lib.hid (fun w' => better_any cu (some u) w')
        have hbd := fun (v : Int) (w : World) => run_build (P := Try.prog) w 139 #[(0, .bool true), (1, .int .i64 v)] #[.bool true, .int .i64 v] (by kernel_rfl)
        have hgc := cell_grown
        have hr1 : (pr : Int) < (K : Int) := by omega
        have hr2 : (pt : Int) < (K : Int) := by omega
        have hr3 : (0 : Int) ≤ (pr : Int) := by omega
        have hr4 : (0 : Int) ≤ (pt : Int) := by omega
        have HCU := Lib.hid hcu
        clear hcu
        refine wp_region_mix [] [0, 1, 2, 3, 4, 5, 6, 7, 8, 9, 10, 11, 12, 13, 14, 15, 16] [] [17] (by kernel_rfl) (by kernel_rfl) (fun _ _ d _ _ h => by cases d <;> exact h) ?_
        refine wpPre_nil ?_
        repeat (refine wpLoose_step rfl (fun K hK => ?_); (try simp only [Oper.quietAt, Oper.quietUpon]); go_simp; first | (refine hK _ ?_; clear hK K) | (apply Exists.intro; refine ⟨fun p => ?_, hK _ ?_⟩; (go_at_call 100; exact HCB.out _); clear hK K))
        refine wpLoose_nil (wpFresh_nil (fun w4 hE4 _ => ?_))
        try simp only [List.drop_succ_cons, List.drop_zero]
        clear q0 c0 c1 lg li k3 lk hgc hbd
        have hm4 := matK_ext HM3.out hE4
        obtain ⟨q0, c0, c1, ⟨f0, f1⟩, lg, li⟩ := mat_cell hm4 hprl hptl
        obtain ⟨hm5, hu5⟩ := mat_set (c := betO cu (some u)) hm4 hprl hptl
        have HM5 := Lib.hid hm5
        have HE5 := Lib.hid (ext_of_upd (upd_trans (upd_of_ext (ext_trans HE3.out hE4)) hu5 (fun q hq e => by have h5 := hm4.low.2 pr hprl; have e' : q = gs0 pr := e; omega)))
        have HI5 := Lib.hid (show BaseI 0 m Ns (E.take (i + 1)) (setM M pr pt (betO cu (some u))) from by
          rw [HTK.out, HCU.out]
          exact base_put (e := (⟨ka, kb, kc⟩, u)) HC.out.nodes.nodup HI.out HKB.out (by rw [HPP.out.1]; exact HPA.out.1) (by rw [HPP.out.2]; exact HPC.out.1))
        clear hm4 hm5 hu5 hE4
        refine wpSeq_of_list [17] [_] _ _ rfl ?_
        go_wp2
        go_roundw
        case rel => exact ⟨i + 1, by omega, by go_num, ⟨_, HM5.out, HI5.out⟩, HE5.out⟩
        case measure => simp [intOf]; omega
      · have hne : (kb != m) = true := by simp [hkb]
        have HI5 := Lib.hid (show BaseI 0 m Ns (E.take (i + 1)) M from by rw [HTK.out]; exact base_skip HI.out hkb)
        rw [HW2.out.1] at HM2 HE2
        clear HW2 HB2 hkb
        go_wp2
        go_roundw
        case rel => exact ⟨i + 1, by omega, by go_num, ⟨M, HM2.out, HI5.out⟩, HE2.out⟩
        case measure => simp [intOf]; omega
    · have HIE := Lib.hid (show E.take i = E from by rw [show i = ne by omega, HNE.out, List.take_length])
      have HF := Lib.hid (show LeadTo (.node 0 m []) E Ns w (.returned (mval g0 K)) wr from ⟨g0, gs0, M, K, HK.out, rfl, matK_low HM.out HWS.out, base_mat (by omega) HC.out.nd HC.out.top HC.out.nodes (by rw [← HIE.out]; exact HI.out), ext_trans HE0.out HE.out⟩)
      have hnl : ¬ (i : Int) < (ne : Int) := by omega
      clear hbr
      go_wp2
      refine bodyPost_ret (results_tmp rfl _ _ _) rfl ?_
      exact HF.out
set_option maxRecDepth 100000 in
theorem lead_base1 (m : Int) (rb n x : Nat) (E : List Ed) (ve vn : Value) (Ns : List Int) (w : World) (_hn : n ≤ 100) (hl : Lst w rb n (.node 1 m []) x) (hc : LeadC E Ns ve vn w) : Calls Try.prog 79 #[.slice (some ⟨rb, 0, none⟩) n n, .int .i64 (x : Int), ve, vn] w (LeadTo (.node 1 m []) E Ns w) := by
  have HL := Lib.hid hl
  have HC := Lib.hid hc
  obtain ⟨K, hK⟩ : ∃ K, K = Ns.length := ⟨_, rfl⟩
  have hKl : K ≤ 200 := by rw [hK]; exact hc.len
  have HK := Lib.hid hK
  obtain ⟨Ae, ce, hve⟩ := rowE_form hc.row
  obtain ⟨An, cn, hvn⟩ := rowE_form hc.nrow
  obtain ⟨ne, hne⟩ : ∃ n, n = E.length := ⟨_, rfl⟩
  have hnel : ne ≤ 100 := by rw [hne]; exact hc.el
  rw [← hne] at hve
  rw [← hK] at hvn
  subst hve
  subst hvn
  have HNE := Lib.hid hne
  obtain ⟨hx, lrb, h1, h2, A, c, h3, hcp, hch⟩ := lst_node hl
  have hxi : (x : Int) < (n : Int) := by omega
  have hx0 : (0 : Int) ≤ (x : Int) := by omega
  obtain ⟨np, hnp⟩ : ∃ q, q = ([] : List Tr).length := ⟨_, rfl⟩
  rw [← hnp] at h3 hcp
  have HNP := Lib.hid hnp
  obtain ⟨W, hW⟩ : ∃ W, W = w.alloc (.cells #[.int .i64 1, .int .i64 m, .slice A np c] 102) := ⟨_, rfl⟩
  have hE0 : Ext w W := by rw [hW]; exact ext_alloc (ext_refl _) _
  obtain ⟨p9, hp9⟩ : ∃ p, p = w.heap.size := ⟨_, rfl⟩
  have hB0 : W.heap[p9]? = some (.cells #[.int .i64 1, .int .i64 m, .slice A np c] 102 (0, 0)) := by rw [hW, hp9]; exact heap_alloc_new _ _
  have HE0 := Lib.hid hE0
  have HB0 := Lib.hid hB0
  have HW := Lib.hid (And.intro hW hp9)
  have HWS := Lib.hid (show w.heap.size ≤ W.heap.size from ext_size hE0)
  have H3 := Lib.hid h3
  clear hl hc hK hne hx hch hnp hW hE0 hp9 hB0
  go_enter Try.func79, Try.ntmps79
  go_wp2_with fail
  rw [← HW.out.1, ← HW.out.2]
  refine (empty_mat K W hKl).mono ?_
  rintro e w1 ⟨g0, gs0, rfl, hM0, hE1⟩
  have HM0 := Lib.hid hM0
  have HE1 := Lib.hid hE1
  have hb1 := (ext_block hE1 (block_lt HB0.out)).trans HB0.out
  have b0 := block_cell hb1 0
  have b1 := block_cell hb1 1
  have b2 := block_cell hb1 2
  have bl := block_lt hb1
  clear hM0 hE1 hb1 h1 h2 h3 lrb
  go_wp2
  go_loopw [35] (fun y wr => ∃ i : Nat, i ≤ ne ∧ y = .int .i64 (i : Int) ∧ (∃ M, MatAt W.heap.size K g0 gs0 M wr ∧ BaseI 1 m Ns (E.take i) M) ∧ Ext W wr) (fun y _ => ne - (intOf y).toNat)
  case atStart => exact ⟨0, by omega, rfl, ⟨noneM, HM0.out, base_nil _ _ _⟩, HE1.out⟩
  case round =>
    rename World => wr
    obtain ⟨i, hi, rfl, ⟨M, hM, hI⟩, hE⟩ := hrel
    have HM := Lib.hid hM
    have HI := Lib.hid hI
    have HE := Lib.hid hE
    clear hM hI hE b0 b1 b2 bl
    have hbr := (ext_block HE.out (block_lt HB0.out)).trans HB0.out
    by_cases hlt : i < ne
    · have hii : (i : Int) < (ne : Int) := by omega
      have hi0 : (0 : Int) ≤ (i : Int) := by omega
      obtain ⟨ed, hed⟩ : ∃ x, E[i]? = some x := ⟨_, List.getElem?_eq_getElem (by rw [← HNE.out]; exact hlt)⟩
      have hri := rowE_ext HC.out.row (ext_trans HE0.out HE.out)
      obtain ⟨ge, rfl, lge⟩ := rowE_some hri (fun e => by rw [e] at hed; simp at hed)
      have e0 : wr.cell? ⟨ge, i * 4, none⟩ = some (.int .i64 ed.1.a) := rowE_cell hri hed (j := 0) (u := .int .i64 ed.1.a) rfl
      have e1 : wr.cell? ⟨ge, i * 4 + 1, none⟩ = some (.int .i64 ed.1.b) := rowE_cell hri hed (j := 1) (u := .int .i64 ed.1.b) rfl
      have e2 : wr.cell? ⟨ge, i * 4 + 2, none⟩ = some (.int .i64 ed.1.c) := rowE_cell hri hed (j := 2) (u := .int .i64 ed.1.c) rfl
      have e3 : wr.cell? ⟨ge, i * 4 + 3, none⟩ = some (.int .i64 ed.2) := rowE_cell hri hed (j := 3) (u := .int .i64 ed.2) rfl
      have HTK := Lib.hid (show E.take (i + 1) = E.take i ++ [ed] from by rw [List.take_add_one, hed, Option.toList_some])
      have hmem := List.mem_of_getElem? hed
      obtain ⟨⟨ka, kb, kc⟩, u⟩ := ed
      simp only at e0 e1 e2 e3
      have hnode : isNode (grOf E) ka ∧ isNode (grOf E) kc := ⟨⟨_, u, (grOf_some HC.out.nd).2 hmem, .inl rfl⟩, ⟨_, u, (grOf_some HC.out.nd).2 hmem, .inr rfl⟩⟩
      obtain ⟨pa, hpa, hpa'⟩ := node_place HC.out.nodes hnode.1
      obtain ⟨pc, hpc, hpc'⟩ := node_place HC.out.nodes hnode.2
      have HPA := Lib.hid (And.intro hpa hpa')
      have HPC := Lib.hid (And.intro hpc hpc')
      have hpal : pa < K := by rw [HK.out]; exact (List.getElem?_eq_some_iff.1 hpa).1
      have hpcl : pc < K := by rw [HK.out]; exact (List.getElem?_eq_some_iff.1 hpc).1
      obtain ⟨W2, hW2⟩ : ∃ W2, W2 = wr.alloc (.cells #[.int .i64 ka, .int .i64 kb, .int .i64 kc, .int .i64 u] 75) := ⟨_, rfl⟩
      have hE2 : Ext wr W2 := by rw [hW2]; exact ext_alloc (ext_refl _) _
      obtain ⟨be, hbe⟩ : ∃ b, b = wr.heap.size := ⟨_, rfl⟩
      have hB2 : W2.heap[be]? = some (.cells #[.int .i64 ka, .int .i64 kb, .int .i64 kc, .int .i64 u] 75 (0, 0)) := by rw [hW2, hbe]; exact heap_alloc_new _ _
      have HB2 := Lib.hid hB2
      have HE2 := Lib.hid (ext_trans HE.out hE2)
      have HM2 := Lib.hid (matK_ext HM.out hE2)
      have HW2 := Lib.hid (And.intro hW2 hbe)
      have b0 := block_cell hbr 0
      have b1 := block_cell hbr 1
      have b2 := block_cell hbr 2
      have bl := block_lt hbr
      clear hed hri hmem hnode hpa hpa' hpc hpc' hW2 hE2 hbe hB2 hbr
      by_cases hkb : kb = m
      · have hne : (kb != m) = false := by simp [hkb]
        have HKB := Lib.hid hkb
        clear hkb
        go_wp2
        rw [← HW2.out.1, ← HW2.out.2]
        have HCA := Lib.hid (fun w' (hE' : Ext W2 w') => place_any Ns _ ka pa w' (rowE_ext HC.out.nrow (ext_trans HE0.out (ext_trans HE2.out hE'))) HPA.out.1 HPA.out.2 (Nat.le_trans HC.out.len (by omega)))
        have HCC := Lib.hid (fun w' (hE' : Ext W2 w') => place_any Ns _ kc pc w' (rowE_ext HC.out.nrow (ext_trans HE0.out (ext_trans HE2.out hE'))) HPC.out.1 HPC.out.2 (Nat.le_trans HC.out.len (by omega)))
        clear e0 e1 e2 e3 lge b0 b1 b2 bl
        have k0 := block_cell HB2.out 0
        have k1 := block_cell HB2.out 1
        have k2 := block_cell HB2.out 2
        have k3 := block_cell HB2.out 3
        have lk := block_lt HB2.out
        have hgc := cell_grown
        refine wp_region_free 12 [0, 1, 2, 3, 4, 5, 6, 7, 8, 9, 10, 11] [] (by kernel_rfl) (by kernel_rfl) ?_
        iterate 4 (refine wpLoose_step rfl (fun K hK => ?_); (try simp only [Oper.quietAt, Oper.quietUpon]); go_simp; (refine hK _ ?_; clear hK K))
        (refine wpLoose_step rfl (fun K hK => ?_); (try simp only [Oper.quietAt, Oper.quietUpon]); go_simp; apply Exists.intro; refine ⟨fun p => ?_, hK _ ?_⟩; (go_at_call 99; refine (HCA.out _ (ext_grow (ext_refl _) _ _)).mono ?_; rintro e w' ⟨rfl, hw'⟩; exact ⟨rfl, by rw [hw']; exact ext_refl _⟩); clear hK K)
        iterate 4 (refine wpLoose_step rfl (fun K hK => ?_); (try simp only [Oper.quietAt, Oper.quietUpon]); go_simp; (refine hK _ ?_; clear hK K))
        (refine wpLoose_step rfl (fun K hK => ?_); (try simp only [Oper.quietAt, Oper.quietUpon]); go_simp; apply Exists.intro; refine ⟨fun p => ?_, hK _ ?_⟩; (go_at_call 99; refine (HCC.out _ (ext_grow (ext_refl _) _ _)).mono ?_; rintro e w' ⟨rfl, hw'⟩; exact ⟨rfl, by rw [hw']; exact ext_refl _⟩); clear hK K)
        iterate 2 (refine wpLoose_step rfl (fun K hK => ?_); (try simp only [Oper.quietAt, Oper.quietUpon]); go_simp; (refine hK _ ?_; clear hK K))
        refine wpLoose_nil (wpFresh_nil (fun W3 hE3 _ => ?_))
        simp only [List.drop_succ_cons, List.drop_zero]
        have HM3 := Lib.hid (matK_ext HM2.out hE3)
        have hb3 := (ext_block hE3 (block_lt HB2.out)).trans HB2.out
        have HB3 := Lib.hid hb3
        have HE3 := Lib.hid (ext_trans HE2.out hE3)
        have hbr := (ext_block HE3.out (block_lt HB0.out)).trans HB0.out
        clear k0 k1 k2 k3 lk hgc hE3
        have b0 := block_cell hbr 0
        have b1 := block_cell hbr 1
        have b2 := block_cell hbr 2
        have bl := block_lt hbr
        clear hb3 hbr
        obtain ⟨pr, hpr⟩ : ∃ p, p = pc := ⟨_, rfl⟩
        obtain ⟨pt, hpt⟩ : ∃ p, p = pa := ⟨_, rfl⟩
        have hprl : pr < K := by rw [hpr]; exact hpcl
        have hptl : pt < K := by rw [hpt]; exact hpal
        have HPP := Lib.hid (And.intro hpr hpt)
        clear hpal hpcl
        go_wp2
        rw [← HPP.out.1, ← HPP.out.2]
        clear b0 b1 b2 bl hpr hpt
        obtain ⟨q0, c0, c1, -, lg, li⟩ := mat_cell HM3.out hprl hptl
        obtain ⟨cu, hcu⟩ : ∃ c, c = M pr pt := ⟨_, rfl⟩
        rw [← hcu] at c0 c1
        have k3 := block_cell HB3.out 3
        have lk := block_lt HB3.out
        have HCB := Lib.hid (fun w' => better_any cu (some u) w')
        have hbd := fun (v : Int) (w : World) => run_build (P := Try.prog) w 139 #[(0, .bool true), (1, .int .i64 v)] #[.bool true, .int .i64 v] (by kernel_rfl)
        have hgc := cell_grown
        have hr1 : (pr : Int) < (K : Int) := by omega
        have hr2 : (pt : Int) < (K : Int) := by omega
        have hr3 : (0 : Int) ≤ (pr : Int) := by omega
        have hr4 : (0 : Int) ≤ (pt : Int) := by omega
        have HCU := Lib.hid hcu
        clear hcu
        refine wp_region_mix [] [0, 1, 2, 3, 4, 5, 6, 7, 8, 9, 10, 11, 12, 13, 14, 15, 16] [] [17] (by kernel_rfl) (by kernel_rfl) (fun _ _ d _ _ h => by cases d <;> exact h) ?_
        refine wpPre_nil ?_
        repeat (refine wpLoose_step rfl (fun K hK => ?_); (try simp only [Oper.quietAt, Oper.quietUpon]); go_simp; first | (refine hK _ ?_; clear hK K) | (apply Exists.intro; refine ⟨fun p => ?_, hK _ ?_⟩; (go_at_call 100; exact HCB.out _); clear hK K))
        refine wpLoose_nil (wpFresh_nil (fun w4 hE4 _ => ?_))
        try simp only [List.drop_succ_cons, List.drop_zero]
        clear q0 c0 c1 lg li k3 lk hgc hbd
        have hm4 := matK_ext HM3.out hE4
        obtain ⟨q0, c0, c1, ⟨f0, f1⟩, lg, li⟩ := mat_cell hm4 hprl hptl
        obtain ⟨hm5, hu5⟩ := mat_set (c := betO cu (some u)) hm4 hprl hptl
        have HM5 := Lib.hid hm5
        have HE5 := Lib.hid (ext_of_upd (upd_trans (upd_of_ext (ext_trans HE3.out hE4)) hu5 (fun q hq e => by have h5 := hm4.low.2 pr hprl; have e' : q = gs0 pr := e; omega)))
        have HI5 := Lib.hid (show BaseI 1 m Ns (E.take (i + 1)) (setM M pr pt (betO cu (some u))) from by
          rw [HTK.out, HCU.out]
          exact base_put (e := (⟨ka, kb, kc⟩, u)) HC.out.nodes.nodup HI.out HKB.out (by rw [HPP.out.1]; exact HPC.out.1) (by rw [HPP.out.2]; exact HPA.out.1))
        clear hm4 hm5 hu5 hE4
        refine wpSeq_of_list [17] [_] _ _ rfl ?_
        go_wp2
        go_roundw
        case rel => exact ⟨i + 1, by omega, by go_num, ⟨_, HM5.out, HI5.out⟩, HE5.out⟩
        case measure => simp [intOf]; omega
      · have hne : (kb != m) = true := by simp [hkb]
        have HI5 := Lib.hid (show BaseI 1 m Ns (E.take (i + 1)) M from by rw [HTK.out]; exact base_skip HI.out hkb)
        rw [HW2.out.1] at HM2 HE2
        clear HW2 HB2 hkb
        go_wp2
        go_roundw
        case rel => exact ⟨i + 1, by omega, by go_num, ⟨M, HM2.out, HI5.out⟩, HE2.out⟩
        case measure => simp [intOf]; omega
    · have HIE := Lib.hid (show E.take i = E from by rw [show i = ne by omega, HNE.out, List.take_length])
      have HF := Lib.hid (show LeadTo (.node 1 m []) E Ns w (.returned (mval g0 K)) wr from ⟨g0, gs0, M, K, HK.out, rfl, matK_low HM.out HWS.out, base_mat (by omega) HC.out.nd HC.out.top HC.out.nodes (by rw [← HIE.out]; exact HI.out), ext_trans HE0.out HE.out⟩)
      have hnl : ¬ (i : Int) < (ne : Int) := by omega
      clear hbr
      go_wp2
      refine bodyPost_ret (results_tmp rfl _ _ _) rfl ?_
      exact HF.out
end Go.Proofs.Ytiabmdboacpmcaa
/- The document's Leads: parts, one behind the other, any of them, as often as one likes. -/
namespace Go.Proofs.Ytiabmdboacpmcaa
open Go Go.RowKit Go.Sort Go.WideMaps Go.Maps
set_option maxHeartbeats 4000000

theorem formL_at : ∀ {ps : List Tr}, FormL ps → ∀ q ∈ ps, Form q
  | p :: r, h, q, hq => by
    rw [FormL] at h
    rcases List.mem_cons.1 hq with rfl | h1
    · exact h.1
    · exact formL_at h.2 q h1
set_option maxRecDepth 100000 in
theorem lead_seq {N : Nat} (hd : LeadsAt N) (hN1 : N ≤ 100000) (m : Int) (ps : List Tr) (rb n x : Nat) (E : List Ed) (ve vn : Value) (Ns : List Int) (w : World) (hN : sizeL ps ≤ N) (hf : FormL ps) (hn : n ≤ 100) (hl : Lst w rb n (.node 2 m ps) x) (hc : LeadC E Ns ve vn w) : Calls Try.prog 79 #[.slice (some ⟨rb, 0, none⟩) n n, .int .i64 (x : Int), ve, vn] w (LeadTo (.node 2 m ps) E Ns w) := by
  have HD := Lib.hid hd
  have HSF := Lib.hid (And.intro hN hf)
  have hps : (ps : List Tr).length ≤ 100000 := Nat.le_trans (sizeL_len _) (Nat.le_trans hN hN1)
  clear hd hN hf hN1
  have HL := Lib.hid hl
  have HC := Lib.hid hc
  obtain ⟨K, hK⟩ : ∃ K, K = Ns.length := ⟨_, rfl⟩
  have hKl : K ≤ 200 := by rw [hK]; exact hc.len
  have HK := Lib.hid hK
  obtain ⟨Ae, ce, hve⟩ := rowE_form hc.row
  obtain ⟨An, cn, hvn⟩ := rowE_form hc.nrow
  obtain ⟨ne, hne⟩ : ∃ n, n = E.length := ⟨_, rfl⟩
  have hnel : ne ≤ 100 := by rw [hne]; exact hc.el
  rw [← hne] at hve
  rw [← hK] at hvn
  subst hve
  subst hvn
  have HNE := Lib.hid hne
  obtain ⟨hx, lrb, h1, h2, A, c, h3, hcp, hch⟩ := lst_node hl
  have hxi : (x : Int) < (n : Int) := by omega
  have hx0 : (0 : Int) ≤ (x : Int) := by omega
  obtain ⟨np, hnp⟩ : ∃ q, q = (ps : List Tr).length := ⟨_, rfl⟩
  rw [← hnp] at h3 hcp
  have HNP := Lib.hid hnp
  obtain ⟨W, hW⟩ : ∃ W, W = w.alloc (.cells #[.int .i64 2, .int .i64 m, .slice A np c] 102) := ⟨_, rfl⟩
  have hE0 : Ext w W := by rw [hW]; exact ext_alloc (ext_refl _) _
  obtain ⟨p9, hp9⟩ : ∃ p, p = w.heap.size := ⟨_, rfl⟩
  have hB0 : W.heap[p9]? = some (.cells #[.int .i64 2, .int .i64 m, .slice A np c] 102 (0, 0)) := by rw [hW, hp9]; exact heap_alloc_new _ _
  have HE0 := Lib.hid hE0
  have HB0 := Lib.hid hB0
  have HW := Lib.hid (And.intro hW hp9)
  have HWS := Lib.hid (show w.heap.size ≤ W.heap.size from ext_size hE0)
  have H3 := Lib.hid h3
  have HCH := Lib.hid hch
  rw [← hnp] at hps
  clear hl hc hK hne hx hch hnp hW hE0 hp9 hB0
  go_enter Try.func79, Try.ntmps79
  go_wp2_with fail
  rw [← HW.out.1, ← HW.out.2]
  refine (empty_mat K W hKl).mono ?_
  rintro e w1 ⟨g0, gs0, rfl, hM0, hE1⟩
  have HM0 := Lib.hid hM0
  have HE1 := Lib.hid hE1
  have hb1 := (ext_block hE1 (block_lt HB0.out)).trans HB0.out
  have b0 := block_cell hb1 0
  have b1 := block_cell hb1 1
  have b2 := block_cell hb1 2
  have bl := block_lt hb1
  clear hM0 hE1 hb1 h1 h2 h3 lrb
  go_wp2_with fail
  refine (self_mat K w1 hKl).mono ?_
  rintro e w2 ⟨g2, gs2, rfl, hM2, hE2⟩
  have HM2 := Lib.hid (show MatAt w.heap.size K g2 gs2 selfM w2 from matK_low hM2 (Nat.le_trans HWS.out (ext_size HE1.out)))
  have HE2 := Lib.hid (ext_trans HE1.out hE2)
  have HI2 := Lib.hid (show MatOf (WordsSeq (ps.take 0)) (grOf E) Ns selfM from mat_congr (mat_self HC.out.nodes) (fun w => by rw [List.take_zero, WordsSeq]))
  clear hM2 hE2 b0 b1 b2 bl
  have hb2 := (ext_block HE2.out (block_lt HB0.out)).trans HB0.out
  have b0 := block_cell hb2 0
  have b1 := block_cell hb2 1
  have b2 := block_cell hb2 2
  have bl := block_lt hb2
  clear hb2
  go_wp2
  go_loopw [11, 89] (fun o y wr => ∃ (j g : Nat) (gs : Nat → Nat) (M : Mx), j ≤ np ∧ o = mval g K ∧ y = .int .i64 (j : Int) ∧ MatAt w.heap.size K g gs M wr ∧ MatOf (WordsSeq (ps.take j)) (grOf E) Ns M ∧ Ext W wr) (fun _ y _ => np - (intOf y).toNat)
  case atStart => exact ⟨0, g2, gs2, selfM, by omega, rfl, rfl, HM2.out, HI2.out, HE2.out⟩
  case round =>
    rename World => wr
    obtain ⟨j, g, gs, M, hj, rfl, rfl, hM, hI, hE⟩ := hrel
    have HM := Lib.hid hM
    have HI := Lib.hid hI
    have HE := Lib.hid hE
    clear hM hI hE b0 b1 b2 bl
    have hbr := (ext_block HE.out (block_lt HB0.out)).trans HB0.out
    have b0 := block_cell hbr 0
    have b1 := block_cell hbr 1
    have b2 := block_cell hbr 2
    have bl := block_lt hbr
    clear hbr
    by_cases hlt : j < np
    · have hji : (j : Int) < (np : Int) := by omega
      have hj0 : (0 : Int) ≤ (j : Int) := by omega
      obtain ⟨q, hq⟩ : ∃ q, ps[j]? = some q := ⟨_, List.getElem?_eq_getElem (by rw [← HNP.out]; exact hlt)⟩
      obtain ⟨gp, yq, hA, lgp, hgy, hyn, hly⟩ := HCH.out j q hq
      subst hA
      have HLY := Lib.hid hly
      have HQ := Lib.hid hq
      have p0 := (ext_cell (ext_trans HE0.out HE.out) _ _ lgp).trans hgy
      have lp := ext_lt (ext_trans HE0.out HE.out) lgp
      clear hq hgy hly lgp
      go_wp2_with fail
      refine (HD.out q rb n yq E _ _ Ns wr (Nat.le_trans (sizeL_mem (List.mem_of_getElem? HQ.out)) HSF.out.1) (formL_at HSF.out.2 _ (List.mem_of_getElem? HQ.out)) hn (lst_ext HLY.out (ext_trans HE0.out HE.out)) (leadC_ext HC.out (ext_trans HE0.out HE.out))).mono ?_
      rintro e w3 ⟨g3, gs3, m3, K', hK', he, hM3, hO3, hE3⟩
      rw [hK', ← HK.out] at he hM3
      subst he
      clear hK'
      have HM3 := Lib.hid hM3
      have HO3 := Lib.hid hO3
      have HE3 := Lib.hid hE3
      clear hM3 hO3 hE3
      clear b0 b1 b2 bl p0 lp
      go_wp2_with fail
      refine (both_mat K g g3 _ _ gs gs3 M m3 w3 (matK_ext HM.out HE3.out) HM3.out hKl).mono ?_
      rintro e w4 ⟨g4, gs4, rfl, hM4, hE4⟩
      have HE4 := Lib.hid (ext_trans HE.out (ext_trans HE3.out hE4))
      have HM4 := Lib.hid (matK_low hM4 (show w.heap.size ≤ w3.heap.size from Nat.le_trans HWS.out (Nat.le_trans (ext_size HE.out) (ext_size HE3.out))))
      have HI4 := Lib.hid (show MatOf (WordsSeq (ps.take (j + 1))) (grOf E) Ns (bothM K M m3) from by
        rw [HK.out]
        refine mat_congr (mat_both HC.out.nodes HI.out HO3.out) (fun u => ?_)
        rw [List.take_add_one, HQ.out, Option.toList_some]
        exact (wordsSeq_snoc _ _ _).symm)
      clear hM4 hE4
      go_wp2
      go_roundw
      case rel => exact ⟨j + 1, g4, gs4, _, by omega, rfl, by go_num, HM4.out, HI4.out, HE4.out⟩
      case measure => simp [intOf]; omega
    · have HF := Lib.hid (show LeadTo (.node 2 m ps) E Ns w (.returned (mval g K)) wr from ⟨g, gs, M, K, HK.out, rfl, HM.out, mat_congr HI.out (fun u => by rw [show ps.take j = ps from by rw [show j = np by omega, HNP.out, List.take_length]]; exact (words_seq m ps u).symm), ext_trans HE0.out HE.out⟩)
      have hnl : ¬ (j : Int) < (np : Int) := by omega
      go_wp2
      refine bodyPost_ret (results_tmp rfl _ _ _) rfl ?_
      exact HF.out
set_option maxRecDepth 100000 in
theorem lead_alt {N : Nat} (hd : LeadsAt N) (hN1 : N ≤ 100000) (m : Int) (ps : List Tr) (rb n x : Nat) (E : List Ed) (ve vn : Value) (Ns : List Int) (w : World) (hN : sizeL ps ≤ N) (hf : FormL ps) (hn : n ≤ 100) (hl : Lst w rb n (.node 3 m ps) x) (hc : LeadC E Ns ve vn w) : Calls Try.prog 79 #[.slice (some ⟨rb, 0, none⟩) n n, .int .i64 (x : Int), ve, vn] w (LeadTo (.node 3 m ps) E Ns w) := by
  have HD := Lib.hid hd
  have HSF := Lib.hid (And.intro hN hf)
  have hps : (ps : List Tr).length ≤ 100000 := Nat.le_trans (sizeL_len _) (Nat.le_trans hN hN1)
  clear hd hN hf hN1
  have HL := Lib.hid hl
  have HC := Lib.hid hc
  obtain ⟨K, hK⟩ : ∃ K, K = Ns.length := ⟨_, rfl⟩
  have hKl : K ≤ 200 := by rw [hK]; exact hc.len
  have HK := Lib.hid hK
  obtain ⟨Ae, ce, hve⟩ := rowE_form hc.row
  obtain ⟨An, cn, hvn⟩ := rowE_form hc.nrow
  obtain ⟨ne, hne⟩ : ∃ n, n = E.length := ⟨_, rfl⟩
  have hnel : ne ≤ 100 := by rw [hne]; exact hc.el
  rw [← hne] at hve
  rw [← hK] at hvn
  subst hve
  subst hvn
  have HNE := Lib.hid hne
  obtain ⟨hx, lrb, h1, h2, A, c, h3, hcp, hch⟩ := lst_node hl
  have hxi : (x : Int) < (n : Int) := by omega
  have hx0 : (0 : Int) ≤ (x : Int) := by omega
  obtain ⟨np, hnp⟩ : ∃ q, q = (ps : List Tr).length := ⟨_, rfl⟩
  rw [← hnp] at h3 hcp
  have HNP := Lib.hid hnp
  obtain ⟨W, hW⟩ : ∃ W, W = w.alloc (.cells #[.int .i64 3, .int .i64 m, .slice A np c] 102) := ⟨_, rfl⟩
  have hE0 : Ext w W := by rw [hW]; exact ext_alloc (ext_refl _) _
  obtain ⟨p9, hp9⟩ : ∃ p, p = w.heap.size := ⟨_, rfl⟩
  have hB0 : W.heap[p9]? = some (.cells #[.int .i64 3, .int .i64 m, .slice A np c] 102 (0, 0)) := by rw [hW, hp9]; exact heap_alloc_new _ _
  have HE0 := Lib.hid hE0
  have HB0 := Lib.hid hB0
  have HW := Lib.hid (And.intro hW hp9)
  have HWS := Lib.hid (show w.heap.size ≤ W.heap.size from ext_size hE0)
  have H3 := Lib.hid h3
  have HCH := Lib.hid hch
  rw [← hnp] at hps
  clear hl hc hK hne hx hch hnp hW hE0 hp9 hB0
  go_enter Try.func79, Try.ntmps79
  go_wp2_with fail
  rw [← HW.out.1, ← HW.out.2]
  refine (empty_mat K W hKl).mono ?_
  rintro e w1 ⟨g0, gs0, rfl, hM0, hE1⟩
  have HM0 := Lib.hid hM0
  have HE1 := Lib.hid hE1
  have hb1 := (ext_block hE1 (block_lt HB0.out)).trans HB0.out
  have b0 := block_cell hb1 0
  have b1 := block_cell hb1 1
  have b2 := block_cell hb1 2
  have bl := block_lt hb1
  clear hM0 hE1 hb1 h1 h2 h3 lrb
  obtain ⟨g2, hg2⟩ : ∃ g, g = g0 := ⟨_, rfl⟩
  obtain ⟨gs2, hgs2⟩ : ∃ g, g = gs0 := ⟨_, rfl⟩
  have HM2 := Lib.hid (show MatAt w.heap.size K g2 gs2 noneM w1 from by rw [hg2, hgs2]; exact matK_low HM0.out HWS.out)
  have HE2 := HE1
  have HI2 := Lib.hid (show MatOf (WordsAlt (ps.take 0)) (grOf E) Ns noneM from mat_congr mat_none (fun w => by rw [List.take_zero, WordsAlt]))
  rw [← hg2]
  clear hg2 hgs2 b0 b1 b2 bl
  have hb2 := (ext_block HE2.out (block_lt HB0.out)).trans HB0.out
  have b0 := block_cell hb2 0
  have b1 := block_cell hb2 1
  have b2 := block_cell hb2 2
  have bl := block_lt hb2
  clear hb2
  go_wp2
  go_loopw [11, 110] (fun o y wr => ∃ (j g : Nat) (gs : Nat → Nat) (M : Mx), j ≤ np ∧ o = mval g K ∧ y = .int .i64 (j : Int) ∧ MatAt w.heap.size K g gs M wr ∧ MatOf (WordsAlt (ps.take j)) (grOf E) Ns M ∧ Ext W wr) (fun _ y _ => np - (intOf y).toNat)
  case atStart => exact ⟨0, g2, gs2, noneM, by omega, rfl, rfl, HM2.out, HI2.out, HE2.out⟩
  case round =>
    rename World => wr
    obtain ⟨j, g, gs, M, hj, rfl, rfl, hM, hI, hE⟩ := hrel
    have HM := Lib.hid hM
    have HI := Lib.hid hI
    have HE := Lib.hid hE
    clear hM hI hE b0 b1 b2 bl
    have hbr := (ext_block HE.out (block_lt HB0.out)).trans HB0.out
    have b0 := block_cell hbr 0
    have b1 := block_cell hbr 1
    have b2 := block_cell hbr 2
    have bl := block_lt hbr
    clear hbr
    by_cases hlt : j < np
    · have hji : (j : Int) < (np : Int) := by omega
      have hj0 : (0 : Int) ≤ (j : Int) := by omega
      obtain ⟨q, hq⟩ : ∃ q, ps[j]? = some q := ⟨_, List.getElem?_eq_getElem (by rw [← HNP.out]; exact hlt)⟩
      obtain ⟨gp, yq, hA, lgp, hgy, hyn, hly⟩ := HCH.out j q hq
      subst hA
      have HLY := Lib.hid hly
      have HQ := Lib.hid hq
      have p0 := (ext_cell (ext_trans HE0.out HE.out) _ _ lgp).trans hgy
      have lp := ext_lt (ext_trans HE0.out HE.out) lgp
      clear hq hgy hly lgp
      go_wp2_with fail
      refine (HD.out q rb n yq E _ _ Ns wr (Nat.le_trans (sizeL_mem (List.mem_of_getElem? HQ.out)) HSF.out.1) (formL_at HSF.out.2 _ (List.mem_of_getElem? HQ.out)) hn (lst_ext HLY.out (ext_trans HE0.out HE.out)) (leadC_ext HC.out (ext_trans HE0.out HE.out))).mono ?_
      rintro e w3 ⟨g3, gs3, m3, K', hK', he, hM3, hO3, hE3⟩
      rw [hK', ← HK.out] at he hM3
      subst he
      clear hK'
      have HM3 := Lib.hid hM3
      have HO3 := Lib.hid hO3
      have HE3 := Lib.hid hE3
      clear hM3 hO3 hE3
      clear b0 b1 b2 bl p0 lp
      go_wp2_with fail
      refine (either_mat K g g3 _ _ gs gs3 M m3 w3 (matK_ext HM.out HE3.out) HM3.out hKl).mono ?_
      rintro e w4 ⟨g4, gs4, rfl, hM4, hE4⟩
      have HE4 := Lib.hid (ext_trans HE.out (ext_trans HE3.out hE4))
      have HM4 := Lib.hid (matK_low hM4 (show w.heap.size ≤ w3.heap.size from Nat.le_trans HWS.out (Nat.le_trans (ext_size HE.out) (ext_size HE3.out))))
      have HI4 := Lib.hid (show MatOf (WordsAlt (ps.take (j + 1))) (grOf E) Ns (eithM M m3) from by
        skip
        refine mat_congr (mat_eith HI.out HO3.out) (fun u => ?_)
        rw [List.take_add_one, HQ.out, Option.toList_some]
        exact (wordsAlt_snoc _ _ _).symm)
      clear hM4 hE4
      go_wp2
      go_roundw
      case rel => exact ⟨j + 1, g4, gs4, _, by omega, rfl, by go_num, HM4.out, HI4.out, HE4.out⟩
      case measure => simp [intOf]; omega
    · have HF := Lib.hid (show LeadTo (.node 3 m ps) E Ns w (.returned (mval g K)) wr from ⟨g, gs, M, K, HK.out, rfl, HM.out, mat_congr HI.out (fun u => by rw [show ps.take j = ps from by rw [show j = np by omega, HNP.out, List.take_length]]; exact (words_alt m ps u).symm), ext_trans HE0.out HE.out⟩)
      have hnl : ¬ (j : Int) < (np : Int) := by omega
      go_wp2
      refine bodyPost_ret (results_tmp rfl _ _ _) rfl ?_
      exact HF.out
set_option maxRecDepth 100000 in
theorem lead_opt {N : Nat} (hd : LeadsAt N) (hN1 : N ≤ 100000) (m : Int) (p : Tr) (rb n x : Nat) (E : List Ed) (ve vn : Value) (Ns : List Int) (w : World) (hN : sizeL [p] ≤ N) (hf : FormL [p]) (hn : n ≤ 100) (hl : Lst w rb n (.node 6 m [p]) x) (hc : LeadC E Ns ve vn w) : Calls Try.prog 79 #[.slice (some ⟨rb, 0, none⟩) n n, .int .i64 (x : Int), ve, vn] w (LeadTo (.node 6 m [p]) E Ns w) := by
  have HD := Lib.hid hd
  have HSF := Lib.hid (And.intro hN hf)
  have hps : ([p] : List Tr).length ≤ 100000 := Nat.le_trans (sizeL_len _) (Nat.le_trans hN hN1)
  clear hd hN hf hN1
  have HL := Lib.hid hl
  have HC := Lib.hid hc
  obtain ⟨K, hK⟩ : ∃ K, K = Ns.length := ⟨_, rfl⟩
  have hKl : K ≤ 200 := by rw [hK]; exact hc.len
  have HK := Lib.hid hK
  obtain ⟨Ae, ce, hve⟩ := rowE_form hc.row
  obtain ⟨An, cn, hvn⟩ := rowE_form hc.nrow
  obtain ⟨ne, hne⟩ : ∃ n, n = E.length := ⟨_, rfl⟩
  have hnel : ne ≤ 100 := by rw [hne]; exact hc.el
  rw [← hne] at hve
  rw [← hK] at hvn
  subst hve
  subst hvn
  have HNE := Lib.hid hne
  obtain ⟨hx, lrb, h1, h2, A, c, h3, hcp, hch⟩ := lst_node hl
  have hxi : (x : Int) < (n : Int) := by omega
  have hx0 : (0 : Int) ≤ (x : Int) := by omega
  obtain ⟨np, hnp⟩ : ∃ q, q = ([p] : List Tr).length := ⟨_, rfl⟩
  rw [← hnp] at h3 hcp
  have HNP := Lib.hid hnp
  obtain ⟨W, hW⟩ : ∃ W, W = w.alloc (.cells #[.int .i64 6, .int .i64 m, .slice A np c] 102) := ⟨_, rfl⟩
  have hE0 : Ext w W := by rw [hW]; exact ext_alloc (ext_refl _) _
  obtain ⟨p9, hp9⟩ : ∃ p, p = w.heap.size := ⟨_, rfl⟩
  have hB0 : W.heap[p9]? = some (.cells #[.int .i64 6, .int .i64 m, .slice A np c] 102 (0, 0)) := by rw [hW, hp9]; exact heap_alloc_new _ _
  have HE0 := Lib.hid hE0
  have HB0 := Lib.hid hB0
  have HW := Lib.hid (And.intro hW hp9)
  have HWS := Lib.hid (show w.heap.size ≤ W.heap.size from ext_size hE0)
  have H3 := Lib.hid h3
  have HCH := Lib.hid hch
  rw [← hnp] at hps
  clear hl hc hK hne hx hch hnp hW hE0 hp9 hB0
  go_enter Try.func79, Try.ntmps79
  go_wp2_with fail
  rw [← HW.out.1, ← HW.out.2]
  refine (empty_mat K W hKl).mono ?_
  rintro e w1 ⟨g0, gs0, rfl, hM0, hE1⟩
  have HM0 := Lib.hid hM0
  have HE1 := Lib.hid hE1
  have hb1 := (ext_block hE1 (block_lt HB0.out)).trans HB0.out
  have b0 := block_cell hb1 0
  have b1 := block_cell hb1 1
  have b2 := block_cell hb1 2
  have bl := block_lt hb1
  clear hM0 hE1 hb1 h1 h2 h3 lrb
  obtain ⟨gp, yq, hA, lgp, hgy, hyn, hly⟩ := HCH.out 0 p rfl
  subst hA
  have HLY := Lib.hid hly
  have hnp1 : (0 : Int) < (np : Int) := by rw [HNP.out]; simp
  have p0 := (ext_cell (ext_trans HE0.out HE1.out) _ _ lgp).trans hgy
  have lp := ext_lt (ext_trans HE0.out HE1.out) lgp
  clear hgy hly lgp
  go_wp2_with fail
  refine (HD.out p rb n yq E _ _ Ns w1 (Nat.le_trans (sizeL_mem (List.mem_singleton.2 rfl)) HSF.out.1) (formL_at HSF.out.2 _ (List.mem_singleton.2 rfl)) hn (lst_ext HLY.out (ext_trans HE0.out HE1.out)) (leadC_ext HC.out (ext_trans HE0.out HE1.out))).mono ?_
  rintro e w3 ⟨g3, gs3, m3, K', hK', he, hM3, hO3, hE3⟩
  rw [hK', ← HK.out] at he hM3
  subst he
  clear hK'
  have HM3 := Lib.hid hM3
  have HO3 := Lib.hid hO3
  have HE3 := Lib.hid hE3
  clear hM3 hO3 hE3
  clear b0 b1 b2 bl p0 lp
  have HEW := Lib.hid (ext_trans HE1.out HE3.out)
  have hb3 := (ext_block HEW.out (block_lt HB0.out)).trans HB0.out
  have b0 := block_cell hb3 0
  have b1 := block_cell hb3 1
  have b2 := block_cell hb3 2
  have bl := block_lt hb3
  clear hb3
  go_wp2_with fail
  refine (self_mat K w3 hKl).mono ?_
  rintro e w4 ⟨g4, gs4, rfl, hM4, hE4⟩
  have HM4 := Lib.hid hM4
  have HE4 := Lib.hid hE4
  clear hM4 hE4 b0 b1 b2 bl
  go_wp2_with fail
  refine (either_mat K g3 g4 _ _ gs3 gs4 m3 selfM w4 (matK_ext HM3.out HE4.out) HM4.out hKl).mono ?_
  rintro e w5 ⟨g5, gs5, rfl, hM5, hE5⟩
  have HF := Lib.hid (show LeadTo (.node 6 m [p]) E Ns w (.returned (mval g5 K)) w5 from ⟨g5, gs5, _, K, HK.out, rfl, matK_low hM5 (Nat.le_trans HWS.out (Nat.le_trans (ext_size HEW.out) (ext_size HE4.out))), mat_congr (mat_eith HO3.out (mat_self HC.out.nodes)) (fun u => by rw [words_opt]; exact or_comm), ext_trans HE0.out (ext_trans HEW.out (ext_trans HE4.out hE5))⟩)
  clear hM5 hE5
  go_wp2
  refine bodyPost_ret (results_tmp rfl _ _ _) rfl ?_
  exact HF.out
set_option maxRecDepth 100000 in
theorem lead_plus {N : Nat} (hd : LeadsAt N) (hN1 : N ≤ 100000) (m : Int) (p : Tr) (rb n x : Nat) (E : List Ed) (ve vn : Value) (Ns : List Int) (w : World) (hN : sizeL [p] ≤ N) (hf : FormL [p]) (hn : n ≤ 100) (hl : Lst w rb n (.node 5 m [p]) x) (hc : LeadC E Ns ve vn w) : Calls Try.prog 79 #[.slice (some ⟨rb, 0, none⟩) n n, .int .i64 (x : Int), ve, vn] w (LeadTo (.node 5 m [p]) E Ns w) := by
  have HD := Lib.hid hd
  have HSF := Lib.hid (And.intro hN hf)
  have hps : ([p] : List Tr).length ≤ 100000 := Nat.le_trans (sizeL_len _) (Nat.le_trans hN hN1)
  clear hd hN hf hN1
  have HL := Lib.hid hl
  have HC := Lib.hid hc
  obtain ⟨K, hK⟩ : ∃ K, K = Ns.length := ⟨_, rfl⟩
  have hKl : K ≤ 200 := by rw [hK]; exact hc.len
  have HK := Lib.hid hK
  obtain ⟨Ae, ce, hve⟩ := rowE_form hc.row
  obtain ⟨An, cn, hvn⟩ := rowE_form hc.nrow
  obtain ⟨ne, hne⟩ : ∃ n, n = E.length := ⟨_, rfl⟩
  have hnel : ne ≤ 100 := by rw [hne]; exact hc.el
  rw [← hne] at hve
  rw [← hK] at hvn
  subst hve
  subst hvn
  have HNE := Lib.hid hne
  obtain ⟨hx, lrb, h1, h2, A, c, h3, hcp, hch⟩ := lst_node hl
  have hxi : (x : Int) < (n : Int) := by omega
  have hx0 : (0 : Int) ≤ (x : Int) := by omega
  obtain ⟨np, hnp⟩ : ∃ q, q = ([p] : List Tr).length := ⟨_, rfl⟩
  rw [← hnp] at h3 hcp
  have HNP := Lib.hid hnp
  obtain ⟨W, hW⟩ : ∃ W, W = w.alloc (.cells #[.int .i64 5, .int .i64 m, .slice A np c] 102) := ⟨_, rfl⟩
  have hE0 : Ext w W := by rw [hW]; exact ext_alloc (ext_refl _) _
  obtain ⟨p9, hp9⟩ : ∃ p, p = w.heap.size := ⟨_, rfl⟩
  have hB0 : W.heap[p9]? = some (.cells #[.int .i64 5, .int .i64 m, .slice A np c] 102 (0, 0)) := by rw [hW, hp9]; exact heap_alloc_new _ _
  have HE0 := Lib.hid hE0
  have HB0 := Lib.hid hB0
  have HW := Lib.hid (And.intro hW hp9)
  have HWS := Lib.hid (show w.heap.size ≤ W.heap.size from ext_size hE0)
  have H3 := Lib.hid h3
  have HCH := Lib.hid hch
  rw [← hnp] at hps
  clear hl hc hK hne hx hch hnp hW hE0 hp9 hB0
  go_enter Try.func79, Try.ntmps79
  go_wp2_with fail
  rw [← HW.out.1, ← HW.out.2]
  refine (empty_mat K W hKl).mono ?_
  rintro e w1 ⟨g0, gs0, rfl, hM0, hE1⟩
  have HM0 := Lib.hid hM0
  have HE1 := Lib.hid hE1
  have hb1 := (ext_block hE1 (block_lt HB0.out)).trans HB0.out
  have b0 := block_cell hb1 0
  have b1 := block_cell hb1 1
  have b2 := block_cell hb1 2
  have bl := block_lt hb1
  clear hM0 hE1 hb1 h1 h2 h3 lrb
  obtain ⟨gp, yq, hA, lgp, hgy, hyn, hly⟩ := HCH.out 0 p rfl
  subst hA
  have HLY := Lib.hid hly
  have hnp1 : (0 : Int) < (np : Int) := by rw [HNP.out]; simp
  have p0 := (ext_cell (ext_trans HE0.out HE1.out) _ _ lgp).trans hgy
  have lp := ext_lt (ext_trans HE0.out HE1.out) lgp
  clear hgy hly lgp
  go_wp2_with fail
  refine (HD.out p rb n yq E _ _ Ns w1 (Nat.le_trans (sizeL_mem (List.mem_singleton.2 rfl)) HSF.out.1) (formL_at HSF.out.2 _ (List.mem_singleton.2 rfl)) hn (lst_ext HLY.out (ext_trans HE0.out HE1.out)) (leadC_ext HC.out (ext_trans HE0.out HE1.out))).mono ?_
  rintro e w3 ⟨g3, gs3, m3, K', hK', he, hM3, hO3, hE3⟩
  rw [hK', ← HK.out] at he hM3
  subst he
  clear hK'
  have HM3 := Lib.hid hM3
  have HO3 := Lib.hid hO3
  have HE3 := Lib.hid hE3
  clear hM3 hO3 hE3
  clear b0 b1 b2 bl p0 lp
  have HEW := Lib.hid (ext_trans HE1.out HE3.out)
  have hb3 := (ext_block HEW.out (block_lt HB0.out)).trans HB0.out
  have b0 := block_cell hb3 0
  have b1 := block_cell hb3 1
  have b2 := block_cell hb3 2
  have bl := block_lt hb3
  clear hb3
  obtain ⟨V, hst, hV1⟩ := more_start HO3.out
  rw [← HK.out] at hst
  have HST := Lib.hid hst
  have HV1 := Lib.hid hV1
  clear hst hV1
  go_wp2
  go_loopw [11] (fun o wr => ∃ (g : Nat) (gs : Nat → Nat) (M : Mx), o = mval g K ∧ MatAt w.heap.size K g gs M wr ∧ MoreI (Words p) (grOf E) Ns K V m3 M ∧ Ext w3 wr) (fun o wr => gapM K V (rdM wr o))
  case atStart => exact ⟨g3, gs3, m3, rfl, matK_low HM3.out (Nat.le_trans HWS.out (ext_size HE1.out)), HST.out, ext_refl _⟩
  case round =>
    rename World => wr
    obtain ⟨g, gs, M, rfl, hM, hI, hE⟩ := hrel
    have HM := Lib.hid hM
    have HI := Lib.hid hI
    have HE := Lib.hid hE
    clear hM hI hE b0 b1 b2 bl
    go_wp2_with fail
    refine (both_mat K g g3 _ _ gs gs3 M m3 wr HM.out (matK_ext HM3.out HE.out) hKl).mono ?_
    rintro e w5 ⟨g5, gs5, rfl, hM5, hE5⟩
    have HM5 := Lib.hid hM5
    have HE5 := Lib.hid hE5
    clear hM5 hE5
    go_wp2_with fail
    refine (either_mat K g g5 _ _ gs gs5 M (bothM K M m3) w5 (matK_ext HM.out HE5.out) HM5.out hKl).mono ?_
    rintro e w6 ⟨g6, gs6, rfl, hM6, hE6⟩
    have HM6 := Lib.hid (show MatAt w5.heap.size K g6 gs6 (nextM K m3 M) w6 from hM6)
    have HE6 := Lib.hid hE6
    clear hM6 hE6
    go_wp2_with fail
    refine (same_mat K g6 g _ _ gs6 gs (nextM K m3 M) M w6 HM6.out (matK_ext HM.out (ext_trans HE5.out HE6.out)) hKl).mono ?_
    rintro e w7 ⟨r, rfl, hsame, hdiff, hE7⟩
    have HSAME := Lib.hid hsame
    have HDIFF := Lib.hid hdiff
    have HE7 := Lib.hid hE7
    have HEX := Lib.hid (ext_trans HE.out (ext_trans HE5.out (ext_trans HE6.out hE7)))
    clear hsame hdiff hE7
    cases r with
    | true =>
      have HMO := Lib.hid (show MatOf (moreL (Words p)) (grOf E) Ns M from by
        have h1 := HI.out
        have h2 := HSAME.out rfl
        rw [HK.out] at h1 h2
        exact more_end HC.out.nodes HO3.out h1 h2)
      have hbr := (ext_block (ext_trans HEW.out HEX.out) (block_lt HB0.out)).trans HB0.out
      have b0 := block_cell hbr 0
      have b1 := block_cell hbr 1
      have b2 := block_cell hbr 2
      have bl := block_lt hbr
      clear hbr
      have HF := Lib.hid (show LeadTo (.node 5 m [p]) E Ns w (.returned (mval g K)) w7 from ⟨g, gs, M, K, HK.out, rfl, matK_ext HM.out (ext_trans HE5.out (ext_trans HE6.out HE7.out)), mat_congr HMO.out (fun u => (words_plusM m p u).symm), ext_trans HE0.out (ext_trans HEW.out HEX.out)⟩)
      go_wp2
      refine bodyPost_ret (results_tmp rfl _ _ _) rfl ?_
      exact HF.out
    | false =>
      have HNXT := Lib.hid (show MoreI (Words p) (grOf E) Ns K V m3 (nextM K m3 M) from by
        have h1 := HI.out
        rw [HK.out] at h1
        have h2 := more_next HO3.out HV1.out h1
        rw [← HK.out] at h2
        exact h2)
      have HM7 := Lib.hid (show MatAt w.heap.size K g6 gs6 (nextM K m3 M) w7 from matK_low (matK_ext HM6.out HE7.out) (Nat.le_trans HWS.out (Nat.le_trans (ext_size HEW.out) (Nat.le_trans (ext_size HE.out) (ext_size HE5.out)))))
      have HME := Lib.hid (show gapM K V (rdM w7 (mval g6 K)) < gapM K V (rdM wr (mval g K)) from by
        obtain ⟨i, j, hi, hj, hne⟩ := HDIFF.out rfl
        rw [gapM_congr (fun i j hi hj => rdM_at HM7.out hi hj), gapM_congr (fun i j hi hj => rdM_at HM.out hi hj)]
        exact gapM_lt (fun i j => more_grows K m3 M i j) hi hj hne (fun v hv => HNXT.out.val i j hi hj v hv))
      go_wp2
      go_roundw
      case rel => exact ⟨g6, gs6, _, rfl, HM7.out, HNXT.out, HEX.out⟩
      case measure => exact HME.out
set_option maxRecDepth 100000 in
theorem lead_star {N : Nat} (hd : LeadsAt N) (hN1 : N ≤ 100000) (m : Int) (p : Tr) (rb n x : Nat) (E : List Ed) (ve vn : Value) (Ns : List Int) (w : World) (hN : sizeL [p] ≤ N) (hf : FormL [p]) (hn : n ≤ 100) (hl : Lst w rb n (.node 4 m [p]) x) (hc : LeadC E Ns ve vn w) : Calls Try.prog 79 #[.slice (some ⟨rb, 0, none⟩) n n, .int .i64 (x : Int), ve, vn] w (LeadTo (.node 4 m [p]) E Ns w) := by
  have HD := Lib.hid hd
  have HSF := Lib.hid (And.intro hN hf)
  have hps : ([p] : List Tr).length ≤ 100000 := Nat.le_trans (sizeL_len _) (Nat.le_trans hN hN1)
  clear hd hN hf hN1
  have HL := Lib.hid hl
  have HC := Lib.hid hc
  obtain ⟨K, hK⟩ : ∃ K, K = Ns.length := ⟨_, rfl⟩
  have hKl : K ≤ 200 := by rw [hK]; exact hc.len
  have HK := Lib.hid hK
  obtain ⟨Ae, ce, hve⟩ := rowE_form hc.row
  obtain ⟨An, cn, hvn⟩ := rowE_form hc.nrow
  obtain ⟨ne, hne⟩ : ∃ n, n = E.length := ⟨_, rfl⟩
  have hnel : ne ≤ 100 := by rw [hne]; exact hc.el
  rw [← hne] at hve
  rw [← hK] at hvn
  subst hve
  subst hvn
  have HNE := Lib.hid hne
  obtain ⟨hx, lrb, h1, h2, A, c, h3, hcp, hch⟩ := lst_node hl
  have hxi : (x : Int) < (n : Int) := by omega
  have hx0 : (0 : Int) ≤ (x : Int) := by omega
  obtain ⟨np, hnp⟩ : ∃ q, q = ([p] : List Tr).length := ⟨_, rfl⟩
  rw [← hnp] at h3 hcp
  have HNP := Lib.hid hnp
  obtain ⟨W, hW⟩ : ∃ W, W = w.alloc (.cells #[.int .i64 4, .int .i64 m, .slice A np c] 102) := ⟨_, rfl⟩
  have hE0 : Ext w W := by rw [hW]; exact ext_alloc (ext_refl _) _
  obtain ⟨p9, hp9⟩ : ∃ p, p = w.heap.size := ⟨_, rfl⟩
  have hB0 : W.heap[p9]? = some (.cells #[.int .i64 4, .int .i64 m, .slice A np c] 102 (0, 0)) := by rw [hW, hp9]; exact heap_alloc_new _ _
  have HE0 := Lib.hid hE0
  have HB0 := Lib.hid hB0
  have HW := Lib.hid (And.intro hW hp9)
  have HWS := Lib.hid (show w.heap.size ≤ W.heap.size from ext_size hE0)
  have H3 := Lib.hid h3
  have HCH := Lib.hid hch
  rw [← hnp] at hps
  clear hl hc hK hne hx hch hnp hW hE0 hp9 hB0
  go_enter Try.func79, Try.ntmps79
  go_wp2_with fail
  rw [← HW.out.1, ← HW.out.2]
  refine (empty_mat K W hKl).mono ?_
  rintro e w1 ⟨g0, gs0, rfl, hM0, hE1⟩
  have HM0 := Lib.hid hM0
  have HE1 := Lib.hid hE1
  have hb1 := (ext_block hE1 (block_lt HB0.out)).trans HB0.out
  have b0 := block_cell hb1 0
  have b1 := block_cell hb1 1
  have b2 := block_cell hb1 2
  have bl := block_lt hb1
  clear hM0 hE1 hb1 h1 h2 h3 lrb
  obtain ⟨gp, yq, hA, lgp, hgy, hyn, hly⟩ := HCH.out 0 p rfl
  subst hA
  have HLY := Lib.hid hly
  have hnp1 : (0 : Int) < (np : Int) := by rw [HNP.out]; simp
  have p0 := (ext_cell (ext_trans HE0.out HE1.out) _ _ lgp).trans hgy
  have lp := ext_lt (ext_trans HE0.out HE1.out) lgp
  clear hgy hly lgp
  go_wp2_with fail
  refine (HD.out p rb n yq E _ _ Ns w1 (Nat.le_trans (sizeL_mem (List.mem_singleton.2 rfl)) HSF.out.1) (formL_at HSF.out.2 _ (List.mem_singleton.2 rfl)) hn (lst_ext HLY.out (ext_trans HE0.out HE1.out)) (leadC_ext HC.out (ext_trans HE0.out HE1.out))).mono ?_
  rintro e w3 ⟨g3, gs3, m3, K', hK', he, hM3, hO3, hE3⟩
  rw [hK', ← HK.out] at he hM3
  subst he
  clear hK'
  have HM3 := Lib.hid hM3
  have HO3 := Lib.hid hO3
  have HE3 := Lib.hid hE3
  clear hM3 hO3 hE3
  clear b0 b1 b2 bl p0 lp
  have HEW := Lib.hid (ext_trans HE1.out HE3.out)
  have hb3 := (ext_block HEW.out (block_lt HB0.out)).trans HB0.out
  have b0 := block_cell hb3 0
  have b1 := block_cell hb3 1
  have b2 := block_cell hb3 2
  have bl := block_lt hb3
  clear hb3
  obtain ⟨V, hst, hV1⟩ := more_start HO3.out
  rw [← HK.out] at hst
  have HST := Lib.hid hst
  have HV1 := Lib.hid hV1
  clear hst hV1
  go_wp2
  go_loopw [11] (fun o wr => ∃ (g : Nat) (gs : Nat → Nat) (M : Mx), o = mval g K ∧ MatAt w.heap.size K g gs M wr ∧ MoreI (Words p) (grOf E) Ns K V m3 M ∧ Ext w3 wr) (fun o wr => gapM K V (rdM wr o))
  case atStart => exact ⟨g3, gs3, m3, rfl, matK_low HM3.out (Nat.le_trans HWS.out (ext_size HE1.out)), HST.out, ext_refl _⟩
  case round =>
    rename World => wr
    obtain ⟨g, gs, M, rfl, hM, hI, hE⟩ := hrel
    have HM := Lib.hid hM
    have HI := Lib.hid hI
    have HE := Lib.hid hE
    clear hM hI hE b0 b1 b2 bl
    go_wp2_with fail
    refine (both_mat K g g3 _ _ gs gs3 M m3 wr HM.out (matK_ext HM3.out HE.out) hKl).mono ?_
    rintro e w5 ⟨g5, gs5, rfl, hM5, hE5⟩
    have HM5 := Lib.hid hM5
    have HE5 := Lib.hid hE5
    clear hM5 hE5
    go_wp2_with fail
    refine (either_mat K g g5 _ _ gs gs5 M (bothM K M m3) w5 (matK_ext HM.out HE5.out) HM5.out hKl).mono ?_
    rintro e w6 ⟨g6, gs6, rfl, hM6, hE6⟩
    have HM6 := Lib.hid (show MatAt w5.heap.size K g6 gs6 (nextM K m3 M) w6 from hM6)
    have HE6 := Lib.hid hE6
    clear hM6 hE6
    go_wp2_with fail
    refine (same_mat K g6 g _ _ gs6 gs (nextM K m3 M) M w6 HM6.out (matK_ext HM.out (ext_trans HE5.out HE6.out)) hKl).mono ?_
    rintro e w7 ⟨r, rfl, hsame, hdiff, hE7⟩
    have HSAME := Lib.hid hsame
    have HDIFF := Lib.hid hdiff
    have HE7 := Lib.hid hE7
    have HEX := Lib.hid (ext_trans HE.out (ext_trans HE5.out (ext_trans HE6.out hE7)))
    clear hsame hdiff hE7
    cases r with
    | true =>
      have HMO := Lib.hid (show MatOf (moreL (Words p)) (grOf E) Ns M from by
        have h1 := HI.out
        have h2 := HSAME.out rfl
        rw [HK.out] at h1 h2
        exact more_end HC.out.nodes HO3.out h1 h2)
      have hbr := (ext_block (ext_trans HEW.out HEX.out) (block_lt HB0.out)).trans HB0.out
      have b0 := block_cell hbr 0
      have b1 := block_cell hbr 1
      have b2 := block_cell hbr 2
      have bl := block_lt hbr
      clear hbr
      go_wp2_with fail
      refine (self_mat K w7 hKl).mono ?_
      rintro e w8 ⟨g8, gs8, rfl, hM8, hE8⟩
      have HM8 := Lib.hid hM8
      have HE8 := Lib.hid hE8
      clear hM8 hE8 b0 b1 b2 bl
      go_wp2_with fail
      refine (either_mat K g g8 _ _ gs gs8 M selfM w8 (matK_ext HM.out (ext_trans HE5.out (ext_trans HE6.out (ext_trans HE7.out HE8.out)))) HM8.out hKl).mono ?_
      rintro e w9 ⟨g9, gs9, rfl, hM9, hE9⟩
      have HF := Lib.hid (show LeadTo (.node 4 m [p]) E Ns w (.returned (mval g9 K)) w9 from ⟨g9, gs9, _, K, HK.out, rfl, matK_low hM9 (Nat.le_trans HWS.out (Nat.le_trans (ext_size HEW.out) (Nat.le_trans (ext_size HEX.out) (ext_size HE8.out)))), mat_congr (mat_eith HMO.out (mat_self HC.out.nodes)) (fun u => (words_starM m p u).symm), ext_trans HE0.out (ext_trans HEW.out (ext_trans HEX.out (ext_trans HE8.out hE9)))⟩)
      clear hM9 hE9
      go_wp2
      refine bodyPost_ret (results_tmp rfl _ _ _) rfl ?_
      exact HF.out
    | false =>
      have HNXT := Lib.hid (show MoreI (Words p) (grOf E) Ns K V m3 (nextM K m3 M) from by
        have h1 := HI.out
        rw [HK.out] at h1
        have h2 := more_next HO3.out HV1.out h1
        rw [← HK.out] at h2
        exact h2)
      have HM7 := Lib.hid (show MatAt w.heap.size K g6 gs6 (nextM K m3 M) w7 from matK_low (matK_ext HM6.out HE7.out) (Nat.le_trans HWS.out (Nat.le_trans (ext_size HEW.out) (Nat.le_trans (ext_size HE.out) (ext_size HE5.out)))))
      have HME := Lib.hid (show gapM K V (rdM w7 (mval g6 K)) < gapM K V (rdM wr (mval g K)) from by
        obtain ⟨i, j, hi, hj, hne⟩ := HDIFF.out rfl
        rw [gapM_congr (fun i j hi hj => rdM_at HM7.out hi hj), gapM_congr (fun i j hi hj => rdM_at HM.out hi hj)]
        exact gapM_lt (fun i j => more_grows K m3 M i j) hi hj hne (fun v hv => HNXT.out.val i j hi hj v hv))
      go_wp2
      go_roundw
      case rel => exact ⟨g6, gs6, _, rfl, HM7.out, HNXT.out, HEX.out⟩
      case measure => exact HME.out
theorem leads_all : ∀ N : Nat, N ≤ 100001 → LeadsAt N
  | 0, _ => fun t rb n x E ve vn Ns w hN => by have := sizeT_pos t; omega
  | N + 1, hN1 => by
    intro t rb n x E ve vn Ns w hN hf hn hl hc
    have hd := leads_all N (by omega)
    cases t with
    | node k m ps =>
      rw [sizeT] at hN
      rw [Form] at hf
      rcases hf with ⟨hk, rfl, _⟩ | ⟨hk, _, hf⟩ | ⟨hk, ⟨p, rfl⟩, hf⟩
      · rcases hk with rfl | rfl
        · exact lead_base0 m rb n x E ve vn Ns w hn hl hc
        · exact lead_base1 m rb n x E ve vn Ns w hn hl hc
      · rcases hk with rfl | rfl
        · exact lead_seq hd (by omega) m ps rb n x E ve vn Ns w (by omega) hf hn hl hc
        · exact lead_alt hd (by omega) m ps rb n x E ve vn Ns w (by omega) hf hn hl hc
      · rcases hk with rfl | rfl | rfl
        · exact lead_star hd (by omega) m p rb n x E ve vn Ns w (by omega) hf hn hl hc
        · exact lead_plus hd (by omega) m p rb n x E ve vn Ns w (by omega) hf hn hl hc
        · exact lead_opt hd (by omega) m p rb n x E ve vn Ns w (by omega) hf hn hl hc
end Go.Proofs.Ytiabmdboacpmcaa
/- Told: are pairs the document's? -/
namespace Go.Proofs.Ytiabmdboacpmcaa
open Go Go.RowKit Go.Sort Go.WideMaps Go.Maps
set_option maxHeartbeats 4000000

theorem mat_prs {L : List Sy → Prop} {E : Gr3} {Ns : List Int} {m : Mx} {p : Prs} (hm : MatOf L E Ns m) (hp : PrsOf L E p) {i j : Nat} {x y : Int} (hi : Ns[i]? = some x) (hj : Ns[j]? = some y) : m i j = p ⟨x, y⟩ := by
  obtain ⟨h1, h2⟩ := hm i j x y hi hj
  refine Option.ext fun v => ?_
  rw [hp.is]
  constructor
  · intro hv
    refine ⟨h1 v hv, fun t ht => ?_⟩
    obtain ⟨u, h3, h4⟩ := h2 t ht
    rw [hv] at h3
    cases h3
    exact h4
  · rintro ⟨h3, h4⟩
    obtain ⟨u, h5, h6⟩ := h2 v h3
    have := h4 u (h1 u h5)
    rw [h5]
    congr 1
    omega
theorem nodesOf_L {E : List Ed} (hnd : KeysNd E) : NodesOf (grOf E) (nodesL E) := ⟨nodup_up (nodesL_up E), fun _ => mem_nodesL hnd⟩
set_option maxRecDepth 100000 in
theorem told_any (t : Tr) (rb n : Nat) (E : List Ed) (ve : Value) (p : Prs) (qb NQ : Nat) (w : World) (hq : MapQ qb NQ p w) (hp : PrsOf (Words t) (grOf E) p) (hl : Lst w rb n t 0) (hr : rowE elDr w ve E) (hnd : KeysNd E) (hok : ∀ e ∈ E, ok3 e.1 ∧ e.2 ≤ forever) (hel : E.length ≤ 50) (hf : Form t) (hs : sizeT t ≤ 100000) (hn : n ≤ 100) :
    Calls Try.prog 50 #[.map (some qb), .slice (some ⟨rb, 0, none⟩) n n, ve] w fun e w' => e = .returned (.bool true) ∧ Ext w w' := by
  have HQ := Lib.hid hq
  have HP := Lib.hid hp
  have HL := Lib.hid hl
  have HR := Lib.hid hr
  have HND := Lib.hid hnd
  have HOK := Lib.hid hok
  have HFS := Lib.hid (And.intro hf hs)
  obtain ⟨Ae, ce, rfl⟩ := rowE_form hr
  obtain ⟨ne, hne⟩ : ∃ n, n = E.length := ⟨_, rfl⟩
  rw [← hne] at HR ⊢
  have HNE := Lib.hid hne
  have hnel : ne ≤ 50 := by omega
  clear hq hp hl hr hnd hok hf hs hne hel
  go_enter Try.func50, Try.ntmps50
  go_wp2_with fail
  refine (nodes_any _ E w HR.out (by rw [← HNE.out]; omega)).mono ?_
  rintro e w1 ⟨vn, rfl, hrn, hE1⟩
  obtain ⟨K, hK⟩ : ∃ K, K = nodesL E := ⟨_, rfl⟩
  rw [← hK] at hrn
  obtain ⟨An, cn, hvn⟩ := rowE_form hrn.1
  obtain ⟨nn, hnn⟩ : ∃ n, n = K.length := ⟨_, rfl⟩
  rw [← hnn] at hvn
  have hnl : nn ≤ 100 := by have := nodesL_len E; have h5 := HNE.out; rw [hnn, hK]; omega
  subst hvn
  have HRN := Lib.hid hrn.1
  have HNN := Lib.hid hnn
  have HKK := Lib.hid (show NodesOf (grOf E) K by rw [hK]; exact nodesOf_L HND.out)
  have HKO := Lib.hid (show ∀ x ∈ K, okI x from fun x hx => by
    obtain ⟨k', u', h2, h3⟩ := (HKK.out.mem x).1 hx
    have h4 := HOK.out _ ((grOf_some HND.out).1 h2)
    rcases h3 with rfl | rfl
    · exact h4.1.1
    · exact h4.1.2.2)
  have HE1 := Lib.hid hE1
  clear hK hrn hnn hE1
  go_wp2_with fail
  refine (leads_all 100000 (by omega) t rb n 0 E _ _ K w1 HFS.out.2 HFS.out.1 hn (lst_ext HL.out HE1.out) ⟨rowE_ext HR.out HE1.out, HRN.out, HND.out, fun e he => (HOK.out e he).2, HKK.out, by rw [← HNN.out]; omega, by rw [← HNE.out]; omega⟩).mono ?_
  rintro e wN ⟨g, gs, m, K', hK', he, hM, hO, hE2⟩
  rw [hK', ← HNN.out] at he hM
  subst he
  clear hK'
  have HM := Lib.hid hM
  have HO := Lib.hid hO
  have HRN2 := Lib.hid (rowE_ext HRN.out hE2)
  have HQN := Lib.hid (mapG_ext HQ.out (ext_trans HE1.out hE2))
  have HEN := Lib.hid (ext_trans HE1.out hE2)
  have HCARD := Lib.hid (show cntM p K K = NQ from cntM_card HKK.out.nodup (fun q hq => by
    have h5 := prs_nodes HP.out hq
    exact ⟨(HKK.out.mem _).2 h5.1, (HKK.out.mem _).2 h5.2⟩) HQ.out)
  clear hM hO hE2
  go_wp2
  go_loopw [24, 9] (fun y c wr => ∃ (i cn : Nat), i ≤ nn ∧ y = .int .i64 (i : Int) ∧ c = .int .i64 (cn : Int) ∧ cn = cntM p (K.take i) K ∧ wN = wr) (fun y _ _ => nn - (intOf y).toNat)
  case atStart => exact ⟨0, 0, by omega, rfl, rfl, rfl, rfl⟩
  case round =>
    obtain ⟨i, cn, hi, rfl, rfl, hcn, rfl⟩ := hrel
    have HCN := Lib.hid hcn
    clear hcn
    by_cases hlt : i < nn
    · have hii : (i : Int) < (nn : Int) := by omega
      have hi0 : (0 : Int) ≤ (i : Int) := by omega
      obtain ⟨x, hx⟩ : ∃ x, K[i]? = some x := ⟨_, List.getElem?_eq_getElem (by rw [← HNN.out]; exact hlt)⟩
      obtain ⟨gn, rfl, lgn⟩ := rowE_some HRN2.out (fun e => by rw [e] at hx; simp at hx)
      have x0 := rowJ_cell HRN2.out hx
      have HX := Lib.hid (And.intro (HKO.out x (List.mem_of_getElem? hx)) hx)
      clear hx
      go_wp2
      go_loopw [31, 9] (fun y c wn => ∃ (j cj : Nat), j ≤ nn ∧ y = .int .i64 (j : Int) ∧ c = .int .i64 (cj : Int) ∧ cj = cn + cntR p x (K.take j) ∧ wN = wn) (fun y _ _ => nn - (intOf y).toNat)
      case atStart => exact ⟨0, cn, by omega, rfl, rfl, rfl, rfl⟩
      case round =>
        obtain ⟨j, cj, hj, rfl, rfl, hcj, rfl⟩ := hrel
        have HCJ := Lib.hid hcj
        clear hcj
        by_cases hlt2 : j < nn
        · have hjj : (j : Int) < (nn : Int) := by omega
          have hj0 : (0 : Int) ≤ (j : Int) := by omega
          obtain ⟨y, hy⟩ : ∃ y, K[j]? = some y := ⟨_, List.getElem?_eq_getElem (by rw [← HNN.out]; exact hlt2)⟩
          have y0 := rowJ_cell HRN2.out hy
          obtain ⟨q0, c0, c1, -, lg, li⟩ := mat_cell HM.out hlt hlt2
          have hmp := mat_prs HO.out HP.out HX.out.2 hy
          have hlk : (Instr.lookup 65 (.map (some qb)) (.agg #[.int .i64 x, .int .i64 y]) true).run Try.prog wN = .ok (.tuple #[.int .i64 ((p ⟨x, y⟩).getD 0), .bool (p ⟨x, y⟩).isSome]) wN := look2_G Try.underlying65 HQN.out (x := ⟨x, y⟩) ⟨HX.out.1, HKO.out y (List.mem_of_getElem? hy)⟩
          have HCT := Lib.hid (cntR_take (p := p) (x := x) hy)
          have hcle : cj ≤ 100000 := by
            have h5 := HCJ.out
            have h6 := HCN.out
            have h7 := cntM_le p (K.take i) K
            have h8 := cntR_le p x (K.take j)
            rw [List.length_take] at h7 h8
            have h9 := HNN.out
            have h10 : min i K.length * K.length ≤ 100 * 100 := Nat.mul_le_mul (by omega) (by omega)
            omega
          have hwc : IntKind.i64.wrap ((cj : Int) + 1) = (cj : Int) + 1 := IntWalk.i64_in _ (by omega)
          obtain ⟨c, hc⟩ : ∃ c, c = p ⟨x, y⟩ := ⟨_, rfl⟩
          rw [hmp, ← hc] at c0 c1
          rw [← hc] at hlk HCT
          clear hmp hc hy hcle
          cases c with
          | none =>
            have HCT' := Lib.hid (show cj = cn + cntR p x (K.take (j + 1)) from by rw [HCT.out]; exact HCJ.out)
            go_wp2
            go_roundw
            case rel => exact ⟨j + 1, cj, by omega, by go_num, rfl, HCT'.out, trivial⟩
            case measure => simp [intOf]; omega
          | some v =>
            have HCT' := Lib.hid (show cj + 1 = cn + cntR p x (K.take (j + 1)) from by rw [HCT.out, HCJ.out]; simp; omega)
            go_wp2
            go_roundw
            case rel => exact ⟨j + 1, cj + 1, by omega, by go_num, by go_num, HCT'.out, trivial⟩
            case measure => simp [intOf]; omega
        · have HJE := Lib.hid (show j = nn by omega)
          have HCF := Lib.hid (show cj = cntM p (K.take (i + 1)) K from by
            rw [cntM_take HX.out.2, HCJ.out, ← HCN.out]
            congr 2
            rw [HJE.out, HNN.out, List.take_length])
          have hnl2 : ¬ (j : Int) < (nn : Int) := by omega
          go_wp2
          go_roundw
          case rel => exact ⟨i + 1, cj, by omega, by go_num, rfl, HCF.out, trivial⟩
          case measure => simp [intOf]; omega
    · have HIE := Lib.hid (show i = nn by omega)
      have hnl1 : ¬ (i : Int) < (nn : Int) := by omega
      have HFIN := Lib.hid (show cn = NQ from by
        rw [← HCARD.out, HCN.out]
        congr 1
        rw [HIE.out, HNN.out, List.take_length])
      have hlen : ∀ ty, (Builtin.len_ #[65] ty #[.map (some qb)]).run Try.prog wN = .ok (.int .i64 (cn : Int)) wN := fun ty => by rw [HFIN.out]; exact len_G Try.underlying65 HQN.out
      go_wp2
      refine bodyPost_ret (results_tmp rfl _ _ _) rfl ?_
      exact ⟨by simp, HEN.out⟩
end Go.Proofs.Ytiabmdboacpmcaa
