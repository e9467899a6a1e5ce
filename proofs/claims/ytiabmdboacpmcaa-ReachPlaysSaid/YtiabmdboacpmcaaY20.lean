/- Texts joined: Hf. -/
import Derived.Test.YtiabmdboacpmcaaY13
import Derived.Test.YtiabmdboacpmcaaY17
import Derived.Test.YtiabmdboacpmcaaY11
/- lead: on from a place by a symbol. -/
namespace Go.Proofs.Ytiabmdboacpmcaa
open Go Go.RowKit Go.Sort
set_option maxHeartbeats 4000000

theorem ext_wR : LeW Ext := ⟨fun h => h, fun h k => ext_trans h k, fun h => ext_size h⟩
theorem rise_le : ∀ {L : List Nat} {m : Nat}, L.Pairwise (· < ·) → (∀ s ∈ L, s < m) → L.length ≤ m
  | [], _, _, _ => Nat.zero_le _
  | x :: L, m, h, hb => by
    obtain ⟨h1, h2⟩ := List.pairwise_cons.1 h
    have h3 : (L.map (· - 1)).Pairwise (· < ·) := List.pairwise_map.2 (h2.imp_of_mem (fun {a b} ha hb' hab => by
      have := h1 a ha
      have := h1 b hb'
      omega))
    have hm := hb x (List.mem_cons_self ..)
    have h4 := rise_le (m := m - 1) h3 (fun s hs => by
      obtain ⟨y, hy, rfl⟩ := List.mem_map.1 hs
      have := hb y (List.mem_cons_of_mem _ hy)
      have := h1 y hy
      omega)
    rw [List.length_map] at h4
    rw [List.length_cons]
    omega
/-- the machine of a forest -/
structure MachF (c : Env) (W0 : World) (m b : Nat) (en : Nat) (mv : List Mv) : Prop where
  mach : Mach W0 c.L.pm m b (en : Int) mv c.w0
  auto : c.A = autoM mv b
  st : ∀ x ∈ c.P, ∃ i : Nat, i < m ∧ x.c = (i : Int)
set_option maxRecDepth 100000 in
theorem lead_any (c : Env) (G : GoodE c) (W0 : World) (m b en : Nat) (mv : List Mv) (M : MachF c W0 m b en mv) (n : Nat) (HK : KeepAt c n) : LeadAt c n := by
  intro x p bk to' u f w hfs hb hg hx hp hto hu hst
  obtain ⟨i, him, hxi⟩ := M.st x hx
  have hxok := (G.okP x hx).1
  obtain ⟨W, hW⟩ : ∃ W, W = (w.alloc (.cells #[.int .i64 x.a, .int .i64 x.b, .int .i64 x.c] 124)).alloc (.cells #[.int .i64 p, .bool bk] 42) := ⟨_, rfl⟩
  have hE0 : Ext w W := by rw [hW]; exact ext_alloc (ext_alloc (ext_refl _) _) _
  obtain ⟨bx, hbx⟩ : ∃ b, b = w.heap.size := ⟨_, rfl⟩
  obtain ⟨bs, hbs⟩ : ∃ b, b = w.heap.size + 1 := ⟨_, rfl⟩
  have hX : W.heap[bx]? = some (.cells #[.int .i64 x.a, .int .i64 x.b, .int .i64 x.c] 124 (0, 0)) := by rw [hW, hbx]; exact (heap_2r w _ _).1
  have hS : W.heap[bs]? = some (.cells #[.int .i64 p, .bool bk] 42 (0, 0)) := by rw [hW, hbs]; exact (heap_2r w _ _).2
  have HFS := Lib.hid (fs_ext hfs hE0)
  have HB := Lib.hid (env_best_ext hb hE0)
  have HE0 := Lib.hid hE0
  have HX := Lib.hid hX
  have HS := Lib.hid hS
  have HW := Lib.hid (show W = _ ∧ bx = _ ∧ bs = _ from ⟨hW, hbx, hbs⟩)
  have HXI := Lib.hid hxi
  have HST := Lib.hid hst
  have HG := Lib.hid hg
  have HMA := Lib.hid (show ∀ w', Ext W w' → Mach W0 c.L.pm m b (en : Int) mv w' from fun w' h => mach_ext M.mach (ext_trans (fs_ext hfs hE0).ext h))
  have HP := Lib.hid hp
  have HTO := Lib.hid hto
  have HAU := Lib.hid M.auto
  have hmb : m ≤ 1000 := M.mach.hm
  have HDST := Lib.hid M.mach.dst
  have ux2 : ∀ w', Ext W w' → w'.cell? ⟨bx, 2, none⟩ = some (.int .i64 (i : Int)) := fun w' h => by
    have h5 := block_cell ((ext_block h (block_lt HX.out)).trans HX.out) 2
    rw [← HXI.out]
    exact h5
  have uxl : ∀ w', Ext W w' → bx < w'.heap.size := fun w' h => ext_lt h (block_lt HX.out)
  have us0 : ∀ w', Ext W w' → w'.cell? ⟨bs, 0, none⟩ = some (.int .i64 p) := fun w' h => block_cell ((ext_block h (block_lt HS.out)).trans HS.out) 0
  have us1 : ∀ w', Ext W w' → w'.cell? ⟨bs, 1, none⟩ = some (.bool bk) := fun w' h => block_cell ((ext_block h (block_lt HS.out)).trans HS.out) 1
  have usl : ∀ w', Ext W w' → bs < w'.heap.size := fun w' h => ext_lt h (block_lt HS.out)
  have up0 : ∀ w', Ext W w' → w'.cell? ⟨c.L.pf, 0, none⟩ = some (ptr c.L.pm) := fun w' h => block_cell ((ext_block h (block_lt HFS.out.blk)).trans HFS.out.blk) 0
  have upl : ∀ w', Ext W w' → c.L.pf < w'.heap.size := fun w' h => ext_lt h (block_lt HFS.out.blk)
  clear hfs hb hE0 hX hS hW hbx hbs hxi hst hg hp hto
  simp only [k3]
  go_enter Try.func95, Try.ntmps95
  go_wp2
  refine wp_gen (fun W2 hW2 => ?_)
  obtain rfl : W2 = W := hW2.trans HW.out.1.symm
  rw [← HW.out.2.2, ← HW.out.2.1]
  clear hW2
  refine wp_region_line ext_wR [10] [(0, false, (fun v => v = ptr c.L.pf), fun _ _ => True), (1, false, (fun v => v = ptr c.L.pf), fun _ _ => True), (2, false, (fun v => v = ptr c.L.pf), fun _ _ => True), (3, false, (fun v => v = ptr c.L.pm), fun _ _ => True), (4, false, (fun v => v = (.pointer (some ⟨bx, 2, none⟩))), fun _ _ => True), (5, false, (fun v => v = (.int .i64 (i : Int))), fun _ _ => True), (6, false, (fun _ => True), fun v w0 => RdN w0 v [i]), (7, false, (fun v => v = (.agg #[.int .i64 p, .bool bk])), fun _ _ => True), (8, false, (fun _ => True), fun v w0 => ∃ (A : Option Addr) (cp : Nat) (N : List Nat), v = .slice A N.length cp ∧ rowE elN w0 v N ∧ IsNext mv [i] (p, bk) N)] [9] [0, 1, 2, 3, 4, 5, 6, 7, 8] rfl (by kernel_rfl) (by kernel_rfl) (fun _ _ d _ _ h => by cases d <;> exact h) ?_
  repeat (refine wpPre_step rfl (fun K hK => ?_); go_simp; (refine hK _ ?_; clear hK K))
  refine wpPre_nil ?_
  refine wpGl_pure1 (fun _ _ _ h h1 w' hw hs => h1 w' hw (h _ hs)) rfl (fun w6 hE6 hS6 => ?_) (fun K hK => ?_)
  · simp only [opAtL, runsAt]
    go_simp
    all_goals (first | exact ⟨ext_refl _, rfl⟩ | exact ext_refl _ | rfl | trivial)
  go_simp
  refine hK _ ?_
  clear hK K
  refine wpGl_pure1 (fun _ _ _ h h1 w' hw hs => h1 w' hw (h _ hs)) rfl (fun w6 hE6 hS6 => ?_) (fun K hK => ?_)
  · simp only [opAtL, runsAt]
    go_simp
    all_goals (first | exact ⟨ext_refl _, rfl⟩ | exact ext_refl _ | rfl | trivial)
  go_simp
  refine hK _ ?_
  clear hK K
  refine wpGl_pure1 (fun _ _ _ h h1 w' hw hs => h1 w' hw (h _ hs)) rfl (fun w6 hE6 hS6 => ?_) (fun K hK => ?_)
  · simp only [opAtL, runsAt]
    go_simp
    all_goals (first | exact ⟨ext_refl _, rfl⟩ | exact ext_refl _ | rfl | trivial)
  go_simp
  refine hK _ ?_
  clear hK K
  refine wpGl_pure1 (fun _ _ _ h h1 w' hw hs => h1 w' hw (h _ hs)) rfl (fun w6 hE6 hS6 => ?_) (fun K hK => ?_)
  · have q0 := up0 w6 hE6
    have q1 := upl w6 hE6
    simp only [opAtL, runsAt]
    go_simp
    all_goals (first | exact ⟨ext_refl _, rfl⟩ | exact ext_refl _ | rfl | trivial)
  go_simp
  refine hK _ ?_
  clear hK K
  refine wpGl_pure1 (fun _ _ _ h h1 w' hw hs => h1 w' hw (h _ hs)) rfl (fun w6 hE6 hS6 => ?_) (fun K hK => ?_)
  · simp only [opAtL, runsAt]
    go_simp
    all_goals (first | exact ⟨ext_refl _, rfl⟩ | exact ext_refl _ | rfl | trivial)
  go_simp
  refine hK _ ?_
  clear hK K
  refine wpGl_pure1 (fun _ _ _ h h1 w' hw hs => h1 w' hw (h _ hs)) rfl (fun w6 hE6 hS6 => ?_) (fun K hK => ?_)
  · have q0 := ux2 w6 hE6
    have q1 := uxl w6 hE6
    simp only [opAtL, runsAt]
    go_simp
    all_goals (first | exact ⟨ext_refl _, rfl⟩ | exact ext_refl _ | rfl | trivial)
  go_simp
  refine hK _ ?_
  clear hK K
  refine wpGl_step1 rfl (fun v a b hE h => rdN_ext h hE) ⟨undef, trivial⟩ (fun w6 hE6 hS6 => ?_) (fun v6 _ K hK => ?_)
  · simp only [opAtL, runsAt]
    go_simp
    refine ⟨ext_alloc (ext_refl _) _, _, _, rfl, Nat.le_refl _, fun _ => ⟨w6.heap.size, 0, rfl, by simp, fun j y hy => ?_⟩⟩
    have hb6 := heap_alloc_new w6 (.cells #[.int .i64 (i : Int)] 3)
    cases j with
    | zero => cases hy; exact block_cell hb6 0
    | succ j => simp at hy
  go_simp
  refine hK _ ?_
  clear hK K
  refine wpGl_pure1 (fun _ _ _ h h1 w' hw hs => h1 w' hw (h _ hs)) rfl (fun w6 hE6 hS6 => ?_) (fun K hK => ?_)
  · have q0 := us0 w6 hE6
    have q1 := us1 w6 hE6
    have q2 := usl w6 hE6
    simp only [opAtL, runsAt]
    go_simp
    all_goals (first | exact ⟨ext_refl _, rfl⟩ | exact ext_refl _ | rfl | trivial)
  go_simp
  refine hK _ ?_
  clear hK K
  refine wpGl_step1 rfl (fun v a b hE h => by obtain ⟨A, cp, N, h5, h6, h7⟩ := h; exact ⟨A, cp, N, h5, rowE_ext h6 hE, h7⟩) ⟨undef, trivial⟩ (fun w6 hE6 hS6 => ?_) (fun v8 _ K hK => ?_)
  · have hrd := hS6 _ (List.mem_cons_self ..) (by kernel_rfl)
    simp only [opAtL, runsAt]
    go_simp
    refine (next_any W0 w6 c.L.pm m b (en : Int) mv v6 [i] (p, bk) (HMA.out w6 hE6) hrd (fun s hs => by rw [List.mem_singleton.1 hs]; exact him) (by simp)).mono ?_
    rintro e w7 ⟨A, cp, N, rfl, hr, hn, hE7⟩
    exact ⟨_, rfl, hE7, A, cp, N, rfl, hr.1, hn⟩
  go_simp
  refine hK _ ?_
  clear hK K
  refine wpGl_nil (fun w3 hE3 hS3 => ?_)
  obtain ⟨A3, cp3, N, rfl, hr3, hn3⟩ := hS3.1 _ (List.mem_cons_self ..)
  clear hS3 ux2 uxl us0 us1 usl up0 upl
  have HE3 := Lib.hid (ext_trans HE0.out hE3)
  have HF3 := Lib.hid (fs_ext HFS.out hE3)
  have HB3 := Lib.hid (env_best_ext HB.out hE3)
  have HX3 := Lib.hid ((ext_block hE3 (block_lt HX.out)).trans HX.out)
  have HN3 := Lib.hid hn3
  have HR3 := Lib.hid hr3
  have hnl : N.length ≤ m := rise_le hn3.1 (fun s hs => by
    obtain ⟨k, hk, d, h5, h6⟩ := (hn3.2 s).1 hs
    exact way_lt HDST.out (HDST.out _ _ _ h5) h6)
  obtain ⟨nn, hnn⟩ : ∃ k, k = N.length := ⟨_, rfl⟩
  rw [← hnn] at hnl ⊢
  have HNN := Lib.hid hnn
  clear hE3 hn3 hr3 hnn
  refine wpSeq_of_list [9] [_] _ _ rfl ?_
  go_wp2
  go_loopw [22] (fun y wr => ∃ j : Nat, j ≤ nn ∧ y = .int .i64 (j : Int) ∧ (∃ g, c.best g wr ∧ Visit c.A c.E u f g ∧ ∀ s ∈ N.take j, geO (g ⟨x.a, to', (s : Int)⟩) u) ∧ Upd (fun b => b = c.L.bb) w3 wr) (fun y _ => nn - (intOf y).toNat)
  case atStart => exact ⟨0, by omega, rfl, ⟨f, HB3.out, visit_refl .., fun s hs => by simp at hs⟩, upd_refl⟩
  case round =>
    rename World => wi
    obtain ⟨j, hj, rfl, ⟨g, hbg, hvg, hqg⟩, hU⟩ := hrel
    have hxb : bx ≠ c.L.bb := by obtain ⟨N, hN⟩ := HB3.out.1; exact mapG_off hN HX3.out
    have hxi := (hU.block bx (block_lt HX3.out) hxb).trans HX3.out
    have HBG := Lib.hid hbg
    have HVG := Lib.hid hvg
    have HQG := Lib.hid hqg
    have HU := Lib.hid hU
    have HXI2 := Lib.hid hxi
    have HFI := Lib.hid (env_fs_upd HF3.out HB3.out hU)
    by_cases hlt : j < nn
    · have hji : (j : Int) < (nn : Int) := by omega
      have hj0 : (0 : Int) ≤ (j : Int) := by omega
      obtain ⟨s, hs⟩ : ∃ s, N[j]? = some s := ⟨_, List.getElem?_eq_getElem (by rw [← HNN.out]; exact hlt)⟩
      obtain ⟨g3, hg3, lg3⟩ := rowE_some HR3.out (fun e => by rw [e] at hs; simp at hs)
      subst hg3
      obtain ⟨_, cur3, hc3⟩ := rowE_block HR3.out (g := g3) rfl
      have hgb : g3 ≠ c.L.bb := by obtain ⟨N', hN'⟩ := HB3.out.1; exact mapG_off hN' hc3
      have s0 : wi.cell? ⟨g3, j, none⟩ = some (.int .i64 (s : Int)) := (upd_cell hU lg3 hgb j).trans (rowN_cell HR3.out hs)
      have lg : g3 < wi.heap.size := Nat.lt_of_lt_of_le lg3 hU.size
      have x0 := block_cell hxi 0
      have lx := block_lt hxi
      have hstep : c.A.step x.c p bk (s : Int) := by
        rw [HAU.out]
        obtain ⟨k, hk, d, h5, h6⟩ := (HN3.out.2 s).1 (List.mem_of_getElem? hs)
        rw [List.mem_singleton.1 hk] at h5
        exact ⟨i, s, HXI.out, rfl, d, h5, h6⟩
      have hcall := HK ⟨x.a, to', (s : Int)⟩ u g wi HFI.out hbg (Nat.le_trans (gap_mono hvg.le) HG.out) (HST.out _ hstep).1 hu (fun hs => (HST.out _ hstep).2 (sound_le hvg.le hs))
      have HCALL := Lib.hid hcall
      have HSJ := Lib.hid hs
      clear hbg hvg hqg hU hxi hs hc3 hgb hstep hcall hxb
      go_wp2_with fail
      refine HCALL.out.mono ?_
      rintro e w4 ⟨rfl, g2, hb2, hv2, hq2, hU2⟩
      have HB2 := Lib.hid hb2
      have HV2 := Lib.hid (visit_trans HVG.out hv2)
      have HQ2 := Lib.hid (show ∀ s' ∈ N.take (j + 1), geO (g2 ⟨x.a, to', (s' : Int)⟩) u from fun s' hs' => by
        rw [List.take_add_one, HSJ.out, Option.toList_some] at hs'
        rcases List.mem_append.1 hs' with h | h
        · exact geO_le (HQG.out s' h) (hv2.le _)
        · rw [List.mem_singleton.1 h]; exact hq2)
      have HU2 := Lib.hid (upd_trans HU.out hU2 (fun _ _ h => h))
      clear hb2 hv2 hq2 hU2 s0 x0 lx lg
      go_wp2
      go_roundw
      case rel => exact ⟨j + 1, by omega, by go_num, ⟨g2, HB2.out, HV2.out, HQ2.out⟩, HU2.out⟩
      case measure => simp [intOf]; omega
    · have h5 : j = nn := by omega
      subst h5
      clear hbg hvg hqg hU hxi hxb
      go_wp2
      go_end0
      refine ⟨rfl, g, HBG.out, HVG.out, fun st hst => ?_, upd_trans (upd_of_ext HE3.out) HU.out (fun _ _ h => h)⟩
      rw [HAU.out] at hst
      obtain ⟨i', j', h6, rfl, d, h7, h8⟩ := hst
      have hii : i' = i := by have := HXI.out; omega
      subst hii
      refine HQG.out j' ?_
      rw [HNN.out, List.take_length]
      exact (HN3.out.2 j').2 ⟨i', List.mem_singleton.2 rfl, d, h7, h8⟩
end Go.Proofs.Ytiabmdboacpmcaa
