/- BagExpires. -/
import Derived.Test.YtojgbphmkloicaaCm
namespace Go.Proofs.Ytojgbphmkloicaa
open Go Go.RowKit Go.Sort
set_option maxHeartbeats 4000000

/-- behind the first Expire: the first bag turns on, but stays the same; nothing else turns -/
def LeX (pa : Nat) (EB : List Ev) (Fa : Nat → Prop) (w w' : World) : Prop := Upd Fa w w' ∧ (BagM w pa 100 EB Fa → BagM w' pa 100 EB Fa)
theorem leX_w (pa : Nat) (EB : List Ev) (Fa : Nat → Prop) : LeW (LeX pa EB Fa) := ⟨fun h => ⟨upd_of_ext h, fun k => bagM_ext k h⟩, fun h k => ⟨upd_trans h.1 k.1 (fun _ _ h => h), fun x => k.2 (h.2 x)⟩, fun h => h.1.size⟩
set_option maxRecDepth 100000 in
theorem expires_law (v : Value) (L : List AC) (t o c : Int) (w : World) (h : RdA w v L) (ht : okI t) :
    Calls Try.prog 4 #[v, .int .i64 t, .agg #[.int .i64 o, .int .i64 c]] w fun e w' => e = .returned (.bool true) ∧ Ext w w' := by
  obtain ⟨A, cp, rfl, hok, hrd⟩ := h
  obtain ⟨n, hn⟩ : ∃ n, n = L.length := ⟨_, rfl⟩
  rw [← hn]
  obtain ⟨W, hW⟩ : ∃ W, W = w.alloc (.cells #[.int .i64 o, .int .i64 c] 35) := ⟨_, rfl⟩
  have HE0 := Lib.hid (show Ext w W by rw [hW]; exact ext_alloc (ext_refl _) _)
  have HB0 := Lib.hid (show W.heap[w.heap.size]? = some (.cells #[.int .i64 o, .int .i64 c] 35 (0, 0)) by rw [hW]; exact heap_alloc_new _ _)
  have HRD := Lib.hid (show RdA w (.slice A n cp) L by rw [hn]; exact ⟨A, cp, rfl, hok, hrd⟩)
  have HOK := Lib.hid hok
  have HN := Lib.hid hn
  have HT := Lib.hid ht
  clear hok hrd hn ht
  go_enter Try.func4, Try.ntmps4
  go_wp2_with fail
  rw [← hW]
  clear hW
  refine (awake_any W).mono ?_
  rintro e w1 ⟨rfl, hE1⟩
  have HE1 := Lib.hid (ext_trans HE0.out hE1)
  have HB1 := Lib.hid ((ext_block hE1 (block_lt HB0.out)).trans HB0.out)
  clear hE1
  by_cases hbig : (40 : Int) < (n : Int)
  · go_wp2_with fail
    refine (awake_any w1).mono ?_
    rintro e w2 ⟨rfl, hE2⟩
    have HE2 := Lib.hid (ext_trans HE1.out hE2)
    clear hE2
    go_wp2
    refine bodyPost_ret (results_tmp rfl _ _ _) rfl ?_
    exact ⟨rfl, HE2.out⟩
  go_wp2_with fail
  refine (new_two w1).mono ?_
  rintro e w2 ⟨pa, rfl, hpa, hB2, hE2, hs2⟩
  have HE2 := Lib.hid hE2
  have HB2 := Lib.hid hB2
  have HPA := Lib.hid (And.intro hpa hs2)
  clear hE2 hB2 hpa hs2
  go_wp2_with fail
  refine (new_two w2).mono ?_
  rintro e w3 ⟨pb, rfl, hpb, hB3, hE3, hs3⟩
  have HBG := Lib.hid (show Bags w3 pa pb (evL L 0) (evB t L 0) w1.heap.size w3.heap.size from by
    obtain ⟨Fa, h1, h2⟩ := HB2.out
    obtain ⟨Fb, h3, h4⟩ := hB3
    obtain ⟨h5, h6⟩ := HPA.out
    exact ⟨Fa, Fb, bagM_ext h1 hE3, h3, fun b ha hb => by have := h2 b ha; have := h4 b hb; omega, fun b hb => by have := h2 b hb; omega, fun b hb => by have := h4 b hb; omega⟩)
  have HE3 := Lib.hid (ext_trans HE2.out hE3)
  have HBX := Lib.hid ((ext_block (ext_trans HE2.out hE3) (block_lt HB1.out)).trans HB1.out)
  clear hpb hB3 hE3 hs3 HB2 HE2 HPA
  have hn40 : n ≤ 40 := by omega
  clear hbig
  go_wp2
  go_loopw [32] (fun x wr => ∃ j : Nat, j ≤ n ∧ x = .int .i64 (j : Int) ∧ Bags wr pa pb (evL L j) (evB t L j) w1.heap.size wr.heap.size ∧ Ext w1 wr) (fun x _ => n - (intOf x).toNat)
  case atStart => exact ⟨0, by omega, rfl, HBG.out, HE3.out⟩
  case round =>
    rename World => wi
    obtain ⟨j, hj, rfl, hB, hE⟩ := hrel
    have HB := Lib.hid hB
    have HE := Lib.hid hE
    clear hB hE
    by_cases hlt : j < n
    · have hji : (j : Int) < (n : Int) := by omega
      have hj0 : (0 : Int) ≤ (j : Int) := by omega
      obtain ⟨x, hx⟩ : ∃ x, L[j]? = some x := ⟨_, List.getElem?_eq_getElem (by rw [← HN.out]; exact hlt)⟩
      obtain ⟨A', c', hv', _, hrd⟩ := rdA_ext HRD.out (ext_trans HE1.out HE.out)
      simp only [Value.slice.injEq] at hv'
      obtain ⟨rfl, -, rfl⟩ := hv'
      obtain ⟨g, off, rfl, lg, hc⟩ := hrd (fun e => by rw [e] at hx; simp at hx)
      obtain ⟨c0, c1, c2, c3, c4, c5⟩ := hc j x hx
      have HX := Lib.hid hx
      have hox := HOK.out x (List.mem_of_getElem? hx)
      have HOX := Lib.hid hox
      obtain ⟨W4, hW4⟩ : ∃ W4, W4 = wi.alloc (.cells #[.int .u8 x.kind, .int .i64 x.time, .int .i64 x.n, .int .i64 x.key.a, .int .i64 x.key.b, .int .i64 x.key.c] 30) := ⟨_, rfl⟩
      have hEW : Ext wi W4 := by rw [hW4]; exact ext_alloc (ext_refl _) _
      have hbx : W4.heap[wi.heap.size]? = some (.cells #[.int .u8 x.kind, .int .i64 x.time, .int .i64 x.n, .int .i64 x.key.a, .int .i64 x.key.b, .int .i64 x.key.c] 30 (0, 0)) := by rw [hW4]; exact heap_alloc_new _ _
      have HEW := Lib.hid hEW
      have HX4 := Lib.hid hbx
      clear hc hrd hx hox hEW hbx
      have hlen := evL_len L j
      have hlenB := evB_len t L j
      go_wp2_with fail
      rw [← hW4]
      clear hW4 c0 c1 c2 c3 c4 c5 lg
      refine (add_two pa pb (evL L j) (evB t L j) w1.heap.size wi.heap.size x.time x.key W4 (bags_ext HB.out HEW.out) (ext_size HEW.out) (by omega) HOX.out.2.2 HOX.out.1).mono ?_
      rintro e w5 ⟨cc, rfl, hB5, hU5⟩
      obtain ⟨bx, hbx⟩ : ∃ b, b = wi.heap.size := ⟨_, rfl⟩
      have hx5 := (hU5.block wi.heap.size (block_lt HX4.out) (fun e => by have h : w1.heap.size ≤ wi.heap.size ∧ wi.heap.size < wi.heap.size := e; omega)).trans HX4.out
      rw [← hbx] at hx5 ⊢
      have HB5 := Lib.hid hB5
      have HE5 := Lib.hid (show Ext w1 w5 from ext_of_upd (upd_trans (upd_of_ext (ext_trans HE.out HEW.out)) hU5 (fun i hi e => absurd e.1 (by omega))))
      have HX5 := Lib.hid hx5
      have b1 := block_cell hx5 1
      have b3 := block_cell hx5 3
      have b4 := block_cell hx5 4
      have b5 := block_cell hx5 5
      have lb := block_lt hx5
      clear hbx hx5 hB5 hU5
      by_cases hlate : t ≤ x.time
      · go_wp2_with fail
        refine (add_two pb pa (evB t L j) (addE (evL L j) (x.time, x.key)) w1.heap.size w5.heap.size x.time x.key w5 (bags_swap HB5.out) (Nat.le_refl _) (by omega) HOX.out.2.2 HOX.out.1).mono ?_
        rintro e w6 ⟨cd, rfl, hB6, hU6⟩
        have HB6 := Lib.hid (bags_swap hB6)
        have HE6 := Lib.hid (show Ext w1 w6 from ext_of_upd (upd_trans (upd_of_ext HE5.out) hU6 (fun i hi e => absurd e.1 (by omega))))
        clear hB6 hU6 b1 b3 b4 b5 lb
        have HLT := Lib.hid hlate
        clear hlate
        go_wp2
        go_roundw
        case rel => exact ⟨j + 1, by omega, by go_num, (by
          rw [← evL_succ HX.out, ← evB_yes HX.out HLT.out]
          exact HB6.out), HE6.out⟩
        case measure => simp [intOf]; omega
      · have HLT := Lib.hid hlate
        go_wp2
        clear hlate b1 b3 b4 b5 lb
        go_roundw
        case rel => exact ⟨j + 1, by omega, by go_num, (by
          rw [← evL_succ HX.out, evB_no HX.out (by have := HLT.out; omega)]
          exact HB5.out), HE5.out⟩
        case measure => simp [intOf]; omega
    · have hjn : j = n := by omega
      subst hjn
      obtain ⟨EA, hEA⟩ : ∃ EV, EV = evL L j := ⟨_, rfl⟩
      obtain ⟨EB, hEB⟩ : ∃ EV, EV = evB t L j := ⟨_, rfl⟩
      have hea : EA.length ≤ 40 := by rw [hEA]; exact Nat.le_trans (evL_len L j) hn40
      have heb : EB.length ≤ 40 := by rw [hEB]; exact Nat.le_trans (evB_len t L j) hn40
      have HLATE := Lib.hid (show lateE t EA = EB by rw [hEA, hEB]; exact evB_late t L j)
      rw [← hEA, ← hEB] at HB
      have hbox := (ext_block HE.out (block_lt HB1.out)).trans HB1.out
      have hbl := block_lt HB1.out
      have HBOX := Lib.hid hbox
      have HEW := Lib.hid (ext_trans HE1.out HE.out)
      obtain ⟨bx, hbx⟩ : ∃ b, b = w.heap.size := ⟨_, rfl⟩
      have HBW := Lib.hid (show bx < w1.heap.size ∧ w.heap.size ≤ bx by omega)
      clear hEA hEB HN HRD HOK HBG HE3 HBX hbox hbl HE1 HB1 HE0 HB0
      rw [← hbx] at HBOX ⊢
      clear hbx
      obtain ⟨Fa, Fb, hMA, hMB, hAP⟩ := HB.out
      have HMA := Lib.hid hMA
      have HMB := Lib.hid hMB
      have HAP := Lib.hid hAP
      clear hMA hMB hAP
      go_wp2_with fail
      refine (len_any pa 100 EA Fa wi HMA.out).mono ?_
      rintro e w5 ⟨rfl, hw5⟩
      have hw5' := hw5.symm
      subst hw5'
      clear hw5
      go_wp2
      obtain ⟨la, hla⟩ : ∃ x, x = EA.length := ⟨_, rfl⟩
      obtain ⟨lb, hlb⟩ : ∃ x, x = EB.length := ⟨_, rfl⟩
      have hlab : lb ≤ la := by rw [hla, hlb, ← HLATE.out]; exact late_len ..
      obtain ⟨ne, hne⟩ : ∃ x, x = la - lb := ⟨_, rfl⟩
      rw [← hla]
      have hsub : IntKind.i64.wrap ((la : Int) - (lb : Int)) = (ne : Int) := (IntWalk.i64_in _ (by omega)).trans (by omega)
      have HLA := Lib.hid hla
      have HLB := Lib.hid hlb
      have HNE := Lib.hid (show ne + lb = la by omega)
      have hEA := hea
      have hEB := heb
      clear hla hlb hlab hne hea heb hn40
      refine wp_region_line1 (leX_w pa EB Fa) [0, 1, 3, 4] 2 [(5, false, (fun v => v = (.int .i64 (lb : Int))), fun _ _ => True), (6, false, (fun v => v = (.int .i64 (ne : Int))), fun _ _ => True), (7, false, (fun v => v = .bool true), fun _ _ => True), (8, false, (fun v => v = .bool true), fun _ _ => True), (9, false, (fun v => v = ptr pa), fun _ _ => True), (10, false, (fun v => v = (.int .i64 (lb : Int))), fun _ _ => True), (11, false, (fun v => v = ptr pb), fun _ _ => True), (12, false, (fun v => v = (.int .i64 (lb : Int))), fun _ _ => True), (13, false, (fun v => v = .bool true), fun _ _ => True), (14, false, (fun v => v = .bool true), fun _ _ => True), (15, false, (fun v => v = .bool true), fun _ _ => True), (16, false, (fun v => v = ptr pa), fun _ _ => True), (17, false, (fun v => v = (.agg #[.int .i64 o, .int .i64 c])), fun _ _ => True), (18, false, (fun _ => True), fun v w0 => ∃ M, Cont EB o c M ∧ rowE elN w0 v M ∧ ∀ g, v.ownBlock = some g → ¬ Fa g), (19, false, (fun v => v = ptr pb), fun _ _ => True), (20, false, (fun v => v = (.agg #[.int .i64 o, .int .i64 c])), fun _ _ => True), (21, false, (fun _ => True), fun v w0 => ∃ M, Cont EB o c M ∧ rowE elN w0 v M ∧ ∀ g, v.ownBlock = some g → ¬ Fa g), (22, false, (fun v => v = .bool true), fun _ _ => True), (23, false, (fun v => v = .bool true), fun _ _ => True), (24, false, (fun v => v = .bool true), fun _ _ => True), (25, false, (fun v => v = ptr pa), fun _ _ => True), (26, false, (fun v => v = (.int .i64 t)), fun _ _ => True), (27, false, (fun v => v = (.int .i64 0)), fun _ _ => True), (28, false, (fun v => v = .bool true), fun _ _ => True), (29, false, (fun v => v = .bool true), fun _ _ => True)] [30] [5, 6, 7, 8, 9, 10, 11, 12, 13, 14, 15, 16, 17, 18, 19, 20, 21, 22, 23, 24, 25, 26, 27, 28, 29] rfl (by kernel_rfl) (by kernel_rfl) (fun _ _ d _ _ h => by cases d <;> exact h) ?_
      repeat (refine wpPre_step rfl (fun K hK => ?_); go_simp; (refine hK _ ?_; clear hK K))
      refine wpPre_nil ⟨_, rfl, by kernel_rfl, fun W1 hE1 => ?_⟩
      simp only [runsAt]
      go_simp
      refine (expire_any pa 100 EA Fa t W1 (bagM_ext HMA.out hE1) (by omega)).mono ?_
      rintro e wE ⟨nx, rfl, hnx, hMX, hUX⟩
      obtain rfl : nx = ne := by
        have h5 := HLATE.out
        have h6 := HLA.out
        have h7 := HLB.out
        have h8 := HNE.out
        rw [h5] at hnx
        omega
      rw [HLATE.out] at hMX
      have HMX := Lib.hid hMX
      have HUX := Lib.hid (upd_trans (upd_of_ext (fp := Fa) hE1) hUX (fun _ _ h => h))
      have HMB2 := Lib.hid (bagM_upd HMB.out HUX.out (fun b hb hf => HAP.out.1 b hf hb))
      have hbE := (HUX.out.block bx (block_lt HBOX.out) (fun hf => by have h5 := (HAP.out.2.1 bx hf).1; have h6 := HBW.out.1; omega)).trans HBOX.out
      have HBE := Lib.hid hbE
      have HSZ := Lib.hid HUX.out.size
      have ux0 : ∀ x, LeX pa EB Fa wE x → x.cell? ⟨bx, 0, none⟩ = some (.int .i64 o) := fun x h => block_cell ((h.1.block bx (block_lt HBE.out) (fun hf => by have h5 := (HAP.out.2.1 bx hf).1; have h6 := HBW.out.1; omega)).trans HBE.out) 0
      have ux1 : ∀ x, LeX pa EB Fa wE x → x.cell? ⟨bx, 1, none⟩ = some (.int .i64 c) := fun x h => block_cell ((h.1.block bx (block_lt HBE.out) (fun hf => by have h5 := (HAP.out.2.1 bx hf).1; have h6 := HBW.out.1; omega)).trans HBE.out) 1
      have uxl : ∀ x, LeX pa EB Fa wE x → bx < x.heap.size := fun x h => Nat.lt_of_lt_of_le (block_lt HBE.out) h.1.size
      have UA := Lib.hid (show ∀ x, LeX pa EB Fa wE x → BagM x pa 100 EB Fa from fun x h => h.2 HMX.out)
      have UB := Lib.hid (show ∀ x, LeX pa EB Fa wE x → BagM x pb 100 EB Fb from fun x h => bagM_upd HMB2.out h.1 (fun b hb hf => HAP.out.1 b hf hb))
      have LEX := Lib.hid (show ∀ x y, Ext x y → LeX pa EB Fa x y from fun x y h => (leX_w pa EB Fa).ext h)
      clear hnx hMX hUX hE1 hbE
      refine ⟨_, rfl, fun K hK => ?_⟩
      go_simp
      refine hK _ ?_
      clear hK K
      refine wpGl_pure1 (fun _ _ _ h h1 w' hw hs => h1 w' hw (h _ hs)) rfl (fun w6 hE6 hS6 => ?_) (fun K hK => ?_)
      · have hlx := len_any pb 100 EB _ w6 (UB.out w6 hE6)
        rw [← HLB.out] at hlx
        simp only [opAtL, runsAt]
        go_simp
        refine hlx.mono ?_
        rintro e w7 ⟨rfl, rfl⟩
        first | exact ⟨rfl, (leX_w pa EB Fa).ext (ext_refl _)⟩ | exact ⟨_, rfl, (leX_w pa EB Fa).ext (ext_refl _), rfl⟩
      go_simp
      refine hK _ ?_
      clear hK K
      refine wpGl_pure1 (fun _ _ _ h h1 w' hw hs => h1 w' hw (h _ hs)) rfl (fun w6 hE6 hS6 => ?_) (fun K hK => ?_)
      · simp only [opAtL, runsAt]
        go_simp
        all_goals (first | exact ⟨(leX_w pa EB Fa).ext (ext_refl _), rfl⟩ | exact (leX_w pa EB Fa).ext (ext_refl _) | rfl | trivial)
      go_simp
      refine hK _ ?_
      clear hK K
      refine wpGl_pure1 (fun _ _ _ h h1 w' hw hs => h1 w' hw (h _ hs)) rfl (fun w6 hE6 hS6 => ?_) (fun K hK => ?_)
      · simp only [opAtL, runsAt]
        go_simp
        all_goals (first | exact ⟨(leX_w pa EB Fa).ext (ext_refl _), rfl⟩ | exact (leX_w pa EB Fa).ext (ext_refl _) | rfl | trivial)
      go_simp
      refine hK _ ?_
      clear hK K
      refine wpGl_pure1 (fun _ _ _ h h1 w' hw hs => h1 w' hw (h _ hs)) rfl (fun w6 hE6 hS6 => ?_) (fun K hK => ?_)
      · simp only [opAtL, runsAt]
        go_simp
        all_goals (first | exact ⟨(leX_w pa EB Fa).ext (ext_refl _), rfl⟩ | exact (leX_w pa EB Fa).ext (ext_refl _) | rfl | trivial)
      go_simp
      refine hK _ ?_
      clear hK K
      refine wpGl_pure1 (fun _ _ _ h h1 w' hw hs => h1 w' hw (h _ hs)) rfl (fun w6 hE6 hS6 => ?_) (fun K hK => ?_)
      · simp only [opAtL, runsAt]
        go_simp
        all_goals (first | exact ⟨(leX_w pa EB Fa).ext (ext_refl _), rfl⟩ | exact (leX_w pa EB Fa).ext (ext_refl _) | rfl | trivial)
      go_simp
      refine hK _ ?_
      clear hK K
      refine wpGl_pure1 (fun _ _ _ h h1 w' hw hs => h1 w' hw (h _ hs)) rfl (fun w6 hE6 hS6 => ?_) (fun K hK => ?_)
      · have hlx := len_any pa 100 EB _ w6 (UA.out w6 hE6)
        rw [← HLB.out] at hlx
        simp only [opAtL, runsAt]
        go_simp
        refine hlx.mono ?_
        rintro e w7 ⟨rfl, rfl⟩
        first | exact ⟨rfl, (leX_w pa EB Fa).ext (ext_refl _)⟩ | exact ⟨_, rfl, (leX_w pa EB Fa).ext (ext_refl _), rfl⟩
      go_simp
      refine hK _ ?_
      clear hK K
      refine wpGl_pure1 (fun _ _ _ h h1 w' hw hs => h1 w' hw (h _ hs)) rfl (fun w6 hE6 hS6 => ?_) (fun K hK => ?_)
      · simp only [opAtL, runsAt]
        go_simp
        all_goals (first | exact ⟨(leX_w pa EB Fa).ext (ext_refl _), rfl⟩ | exact (leX_w pa EB Fa).ext (ext_refl _) | rfl | trivial)
      go_simp
      refine hK _ ?_
      clear hK K
      refine wpGl_pure1 (fun _ _ _ h h1 w' hw hs => h1 w' hw (h _ hs)) rfl (fun w6 hE6 hS6 => ?_) (fun K hK => ?_)
      · have hlx := len_any pb 100 EB _ w6 (UB.out w6 hE6)
        rw [← HLB.out] at hlx
        simp only [opAtL, runsAt]
        go_simp
        refine hlx.mono ?_
        rintro e w7 ⟨rfl, rfl⟩
        first | exact ⟨rfl, (leX_w pa EB Fa).ext (ext_refl _)⟩ | exact ⟨_, rfl, (leX_w pa EB Fa).ext (ext_refl _), rfl⟩
      go_simp
      refine hK _ ?_
      clear hK K
      refine wpGl_pure1 (fun _ _ _ h h1 w' hw hs => h1 w' hw (h _ hs)) rfl (fun w6 hE6 hS6 => ?_) (fun K hK => ?_)
      · simp only [opAtL, runsAt]
        go_simp
        all_goals (first | exact ⟨(leX_w pa EB Fa).ext (ext_refl _), rfl⟩ | exact (leX_w pa EB Fa).ext (ext_refl _) | rfl | trivial)
      go_simp
      refine hK _ ?_
      clear hK K
      refine wpGl_pure1 (fun _ _ _ h h1 w' hw hs => h1 w' hw (h _ hs)) rfl (fun w6 hE6 hS6 => ?_) (fun K hK => ?_)
      · simp only [opAtL, runsAt]
        go_simp
        all_goals (first | exact ⟨(leX_w pa EB Fa).ext (ext_refl _), rfl⟩ | exact (leX_w pa EB Fa).ext (ext_refl _) | rfl | trivial)
      go_simp
      refine hK _ ?_
      clear hK K
      refine wpGl_pure1 (fun _ _ _ h h1 w' hw hs => h1 w' hw (h _ hs)) rfl (fun w6 hE6 hS6 => ?_) (fun K hK => ?_)
      · simp only [opAtL, runsAt]
        go_simp
        all_goals (first | exact ⟨(leX_w pa EB Fa).ext (ext_refl _), rfl⟩ | exact (leX_w pa EB Fa).ext (ext_refl _) | rfl | trivial)
      go_simp
      refine hK _ ?_
      clear hK K
      refine wpGl_pure1 (fun _ _ _ h h1 w' hw hs => h1 w' hw (h _ hs)) rfl (fun w6 hE6 hS6 => ?_) (fun K hK => ?_)
      · simp only [opAtL, runsAt]
        go_simp
        all_goals (first | exact ⟨(leX_w pa EB Fa).ext (ext_refl _), rfl⟩ | exact (leX_w pa EB Fa).ext (ext_refl _) | rfl | trivial)
      go_simp
      refine hK _ ?_
      clear hK K
      refine wpGl_pure1 (fun _ _ _ h h1 w' hw hs => h1 w' hw (h _ hs)) rfl (fun w6 hE6 hS6 => ?_) (fun K hK => ?_)
      · have k0 := ux0 w6 hE6
        have k1 := ux1 w6 hE6
        have kl := uxl w6 hE6
        simp only [opAtL, runsAt]
        go_simp
        all_goals (first | exact ⟨(leX_w pa EB Fa).ext (ext_refl _), rfl⟩ | exact (leX_w pa EB Fa).ext (ext_refl _) | rfl | trivial)
      go_simp
      refine hK _ ?_
      clear hK K
      refine wpGl_step1 rfl (fun v a b hE h => by obtain ⟨M, h5, h6, h7⟩ := h; exact ⟨M, h5, rowE_upd h6 hE.1 h7, h7⟩) ⟨undef, trivial⟩ (fun w6 hE6 hS6 => ?_) (fun v18 _ K hK => ?_)
      · simp only [opAtL, runsAt]
        go_simp
        refine (content_any pa 100 EB _ o c w6 (UA.out w6 hE6) (by omega)).mono ?_
        rintro e w7 ⟨v', M, rfl, hC, hr, h4⟩
        exact ⟨_, rfl, LEX.out _ _ h4, M, hC, hr.1, fun g hg hf => by have h5 := hr.2 g hg; have h6 := (HAP.out.2.1 g hf).2; have h7 := hE6.1.size; have h8 := HSZ.out; omega⟩
      go_simp
      refine hK _ ?_
      clear hK K
      refine wpGl_pure1 (fun _ _ _ h h1 w' hw hs => h1 w' hw (h _ hs)) rfl (fun w6 hE6 hS6 => ?_) (fun K hK => ?_)
      · simp only [opAtL, runsAt]
        go_simp
        all_goals (first | exact ⟨(leX_w pa EB Fa).ext (ext_refl _), rfl⟩ | exact (leX_w pa EB Fa).ext (ext_refl _) | rfl | trivial)
      go_simp
      refine hK _ ?_
      clear hK K
      refine wpGl_pure1 (fun _ _ _ h h1 w' hw hs => h1 w' hw (h _ hs)) rfl (fun w6 hE6 hS6 => ?_) (fun K hK => ?_)
      · have k0 := ux0 w6 hE6
        have k1 := ux1 w6 hE6
        have kl := uxl w6 hE6
        simp only [opAtL, runsAt]
        go_simp
        all_goals (first | exact ⟨(leX_w pa EB Fa).ext (ext_refl _), rfl⟩ | exact (leX_w pa EB Fa).ext (ext_refl _) | rfl | trivial)
      go_simp
      refine hK _ ?_
      clear hK K
      refine wpGl_step1 rfl (fun v a b hE h => by obtain ⟨M, h5, h6, h7⟩ := h; exact ⟨M, h5, rowE_upd h6 hE.1 h7, h7⟩) ⟨undef, trivial⟩ (fun w6 hE6 hS6 => ?_) (fun v21 _ K hK => ?_)
      · simp only [opAtL, runsAt]
        go_simp
        refine (content_any pb 100 EB _ o c w6 (UB.out w6 hE6) (by omega)).mono ?_
        rintro e w7 ⟨v', M, rfl, hC, hr, h4⟩
        exact ⟨_, rfl, LEX.out _ _ h4, M, hC, hr.1, fun g hg hf => by have h5 := hr.2 g hg; have h6 := (HAP.out.2.1 g hf).2; have h7 := hE6.1.size; have h8 := HSZ.out; omega⟩
      go_simp
      refine hK _ ?_
      clear hK K
      refine wpGl_pure1 (fun _ _ _ h h1 w' hw hs => h1 w' hw (h _ hs)) rfl (fun w6 hE6 hS6 => ?_) (fun K hK => ?_)
      · obtain ⟨M1, hM1, hr1, _⟩ := hS6 _ (List.mem_cons_of_mem _ (List.mem_cons_self ..)) (by kernel_rfl)
        obtain ⟨M2, hM2, hr2, _⟩ := hS6 _ (List.mem_cons_self ..) (by kernel_rfl)
        obtain rfl := cont_unique hM1 hM2 (fun _ => rfl)
        have hml := cont_len hM1
        simp only [opAtL, runsAt]
        go_simp
        refine (same_any _ _ M1 w6 hr1 hr2 (by omega)).mono ?_
        rintro e w7 ⟨rfl, hE7⟩
        first | exact ⟨rfl, LEX.out _ _ hE7⟩ | exact ⟨_, rfl, LEX.out _ _ hE7, rfl⟩
      go_simp
      refine hK _ ?_
      clear hK K
      refine wpGl_pure1 (fun _ _ _ h h1 w' hw hs => h1 w' hw (h _ hs)) rfl (fun w6 hE6 hS6 => ?_) (fun K hK => ?_)
      · simp only [opAtL, runsAt]
        go_simp
        all_goals (first | exact ⟨(leX_w pa EB Fa).ext (ext_refl _), rfl⟩ | exact (leX_w pa EB Fa).ext (ext_refl _) | rfl | trivial)
      go_simp
      refine hK _ ?_
      clear hK K
      refine wpGl_pure1 (fun _ _ _ h h1 w' hw hs => h1 w' hw (h _ hs)) rfl (fun w6 hE6 hS6 => ?_) (fun K hK => ?_)
      · simp only [opAtL, runsAt]
        go_simp
        all_goals (first | exact ⟨(leX_w pa EB Fa).ext (ext_refl _), rfl⟩ | exact (leX_w pa EB Fa).ext (ext_refl _) | rfl | trivial)
      go_simp
      refine hK _ ?_
      clear hK K
      refine wpGl_pure1 (fun _ _ _ h h1 w' hw hs => h1 w' hw (h _ hs)) rfl (fun w6 hE6 hS6 => ?_) (fun K hK => ?_)
      · simp only [opAtL, runsAt]
        go_simp
        all_goals (first | exact ⟨(leX_w pa EB Fa).ext (ext_refl _), rfl⟩ | exact (leX_w pa EB Fa).ext (ext_refl _) | rfl | trivial)
      go_simp
      refine hK _ ?_
      clear hK K
      refine wpGl_pure1 (fun _ _ _ h h1 w' hw hs => h1 w' hw (h _ hs)) rfl (fun w6 hE6 hS6 => ?_) (fun K hK => ?_)
      · simp only [opAtL, runsAt]
        go_simp
        all_goals (first | exact ⟨(leX_w pa EB Fa).ext (ext_refl _), rfl⟩ | exact (leX_w pa EB Fa).ext (ext_refl _) | rfl | trivial)
      go_simp
      refine hK _ ?_
      clear hK K
      refine wpGl_pure1 (fun _ _ _ h h1 w' hw hs => h1 w' hw (h _ hs)) rfl (fun w6 hE6 hS6 => ?_) (fun K hK => ?_)
      · have hex := expire_any pa 100 EB Fa t w6 (UA.out w6 hE6) (by omega)
        have hll : lateE t EB = EB := by rw [← HLATE.out]; exact late_late t EA
        simp only [opAtL, runsAt]
        go_simp
        refine hex.mono ?_
        rintro e w7 ⟨nx, rfl, hnx, hB7, hU7⟩
        rw [hll] at hnx hB7
        obtain rfl : nx = 0 := by omega
        first | exact ⟨rfl, hU7, fun _ => hB7⟩ | exact ⟨_, rfl, ⟨hU7, fun _ => hB7⟩, rfl⟩
      go_simp
      refine hK _ ?_
      clear hK K
      refine wpGl_pure1 (fun _ _ _ h h1 w' hw hs => h1 w' hw (h _ hs)) rfl (fun w6 hE6 hS6 => ?_) (fun K hK => ?_)
      · simp only [opAtL, runsAt]
        go_simp
        all_goals (first | exact ⟨(leX_w pa EB Fa).ext (ext_refl _), rfl⟩ | exact (leX_w pa EB Fa).ext (ext_refl _) | rfl | trivial)
      go_simp
      refine hK _ ?_
      clear hK K
      refine wpGl_pure1 (fun _ _ _ h h1 w' hw hs => h1 w' hw (h _ hs)) rfl (fun w6 hE6 hS6 => ?_) (fun K hK => ?_)
      · simp only [opAtL, runsAt]
        go_simp
        all_goals (first | exact ⟨(leX_w pa EB Fa).ext (ext_refl _), rfl⟩ | exact (leX_w pa EB Fa).ext (ext_refl _) | rfl | trivial)
      go_simp
      refine hK _ ?_
      clear hK K
      refine wpGl_nil (fun w6 hE6 hS6 => ?_)
      clear hS6 ux0 ux1 uxl
      have HF := Lib.hid (show Ext w w6 from ext_of_upd (upd_trans (upd_of_ext HEW.out) (upd_trans HUX.out hE6.1 (fun _ _ h => h)) (fun i hi hf => by
        have h5 := (HAP.out.2.1 i hf).1
        have h6 := HBW.out
        omega)))
      clear hE6
      refine wpSeq_of_list [30] [_] _ _ rfl ?_
      go_wp2
      refine bodyPost_ret (results_tmp rfl _ _ _) rfl ?_
      exact ⟨rfl, HF.out⟩
end Go.Proofs.Ytojgbphmkloicaa
