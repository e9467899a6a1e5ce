/- lay, of a step. -/
import Derived.Test.YtiabmdboacpmcaaPg
import Derived.Test.YtiabmdboacpmcaaPh
namespace Go.Proofs.Ytiabmdboacpmcaa
open Go Go.RowKit Go.Sort
set_option maxHeartbeats 1000000

/-- a machine with moves, so many states -/
def Cur (W : World) (p : Nat) (bg en : Int) (mv : List Mv) (m : Nat) (w : World) : Prop :=
  ∃ Ms, MachAt W w p Ms bg en ∧ Ms.length = m ∧ (∀ s o d, HasM Ms s o d ↔ (s, o, d) ∈ mv) ∧ (∀ l ∈ Ms, l.length ≤ mv.length) ∧ Ext W w
theorem cur_ext {W w w' : World} {p m : Nat} {bg en : Int} {mv : List Mv} (h : Cur W p bg en mv m w) (hE : Ext w w') : Cur W p bg en mv m w' := by
  obtain ⟨Ms, h1, h2, h3, h4, h5⟩ := h
  exact ⟨Ms, machAt_ext h1 hE, h2, h3, h4, ext_trans h5 hE⟩
theorem cur_perm {W w : World} {p m : Nat} {bg en : Int} {mv mv' : List Mv} (h : Cur W p bg en mv m w) (hm : ∀ x, x ∈ mv ↔ x ∈ mv') (hl : mv.length ≤ mv'.length) : Cur W p bg en mv' m w := by
  obtain ⟨Ms, h1, h2, h3, h4, h5⟩ := h
  exact ⟨Ms, h1, h2, fun s o d => (h3 s o d).trans (hm _), fun l hl' => Nat.le_trans (h4 l hl') hl, h5⟩
theorem state_cur (W w : World) (p m : Nat) (bg en : Int) (mv : List Mv) (h : Cur W p bg en mv m w) (hm : m ≤ 100000) :
    Calls Try.prog 58 #[.pointer (some ⟨p, 0, none⟩)] w fun e w' => e = .returned (.int .i64 m) ∧ Cur W p bg en mv (m + 1) w' ∧ Upd (MT w) w w' := by
  obtain ⟨Ms, h1, rfl, h3, h4, h5⟩ := h
  refine (state_any W w p Ms bg en h1 h5 hm).mono ?_
  rintro e w' ⟨rfl, k1, k2, k3⟩
  exact ⟨rfl, ⟨_, k1, by simp, fun s o d => hasM_state.trans (h3 s o d), state_small h4, k2⟩, k3⟩
theorem free_cur (W w : World) (p m s d : Nat) (bg en : Int) (mv : List Mv) (h : Cur W p bg en mv m w) (hm : m ≤ 100000) (hs : s < m) (hl : mv.length ≤ 100000) :
    Calls Try.prog 87 #[.pointer (some ⟨p, 0, none⟩), .int .i64 s, .int .i64 d] w fun e w' => e = .returned (.tuple #[]) ∧ Cur W p bg en (mv ++ [(s, none, d)]) m w' ∧ Upd (MT w) w w' := by
  obtain ⟨Ms, h1, rfl, h3, h4, h5⟩ := h
  refine (free_any W w p Ms bg en s d h1 h5 hm hs (fun l hl' => Nat.le_trans (h4 l hl') hl)).mono ?_
  rintro e w' ⟨rfl, k1, k2, k3⟩
  refine ⟨rfl, ⟨_, k1, addM_len _ _ _, fun s' o d' => (hasM_add hs).trans ?_, fun l hl' => by rw [List.length_append]; exact addM_small h4 l hl', k2⟩, k3⟩
  rw [h3, List.mem_append]
  simp

theorem box_at {w w' : World} {k n : Int} {s : Value} {b : Nat} (h : Upd (MT w) w w') (hb : w.heap[b]? = some (.cells #[.int .i64 k, .int .i64 n, s] 30 (0, 0))) : w'.heap[b]? = some (.cells #[.int .i64 k, .int .i64 n, s] 30 (0, 0)) := mt_block h hb (by decide)

/-- what a move laid behind a state meets -/
theorem mach_open {W w : World} {p s : Nat} {Ms : List (List Mo)} {bg en : Int} (h : MachAt W w p Ms bg en) (hW : Ext W w) (hs : s < Ms.length) :
    ∃ (x : SlV) (l : List Mo) (g c : Nat) (A2 : Option Addr) (c2 : Nat), Ms[s]? = some l ∧ slv x = .slice A2 l.length c2 ∧ rowF elM W.heap.size l (slv x) w ∧
      (∀ pw : UW (fun b => (slv x).ownBlock = some b) w, pw.val.cell? ⟨p, 0, none⟩ = some (.slice (some ⟨g, 0, none⟩) Ms.length c)) ∧
      (∀ pw : UW (fun b => (slv x).ownBlock = some b) w, pw.val.cell? ⟨g, s, none⟩ = some (.slice A2 l.length c2)) ∧
      (∃ cur, w.heap[g]? = some (.cells cur 112 (0, 0))) ∧ (slv x).ownBlock ≠ some g ∧ (∀ b, (slv x).ownBlock = some b → W.heap.size ≤ b) ∧ (slv x).ownBlock ≠ some p ∧ p < w.heap.size ∧
      (∀ (mv : Mo) (w1 : World) (A1 : Option Addr) (n1 c1 : Nat), Upd (fun b => (slv x).ownBlock = some b) w w1 → rowF elM W.heap.size (l ++ [mv]) (.slice A1 n1 c1) w1 →
        ((Value.slice A1 n1 c1).ownBlock = (slv x).ownBlock ∨ ∀ b, (Value.slice A1 n1 c1).ownBlock = some b → w.heap.size ≤ b) →
        MachAt W (w1.setCell ⟨g, s, none⟩ (.slice A1 n1 c1)) p (addM Ms s mv) bg en ∧ Ext W (w1.setCell ⟨g, s, none⟩ (.slice A1 n1 c1)) ∧ Upd (MT w) w (w1.setCell ⟨g, s, none⟩ (.slice A1 n1 c1))) := by
  obtain ⟨hp, A, c, Vs, h1, h2, h3, h4, h5⟩ := h
  have hsv : s < Vs.length := by omega
  obtain ⟨x, hx⟩ : ∃ x, Vs[s]? = some x := ⟨_, List.getElem?_eq_getElem hsv⟩
  obtain ⟨l, hlm⟩ : ∃ l, Ms[s]? = some l := ⟨_, List.getElem?_eq_getElem hs⟩
  have h4x := h4 s x l hx hlm
  obtain ⟨g, hg, lg⟩ := rowE_some h2.1 (fun e => by rw [e] at hsv; simp at hsv)
  have HM := fun (mv : Mo) (w1 : World) (A1 : Option Addr) (n1 c1 : Nat) hu hr hat => mach_add (w1 := w1) (mv := mv) (A1 := A1) (n1 := n1) (c1 := c1) hp h1 h2 h3 h4 h5 hg hx hlm hu hr hat hW
  subst hg
  have hpx : (slv x).ownBlock ≠ some p := rowE_off h4x.1 h1 (by decide)
  have hgx : (slv x).ownBlock ≠ some g := fun e => el_apart h4x.1 h2.1 (by decide) e rfl
  obtain ⟨A2, c2, hx2⟩ := rowE_form h4x.1
  have qs : w.cell? ⟨g, s, none⟩ = some (slv x) := by
    have := rowE_cell h2.1 hx (j := 0) (u := slv x) rfl
    simpa [elV] using this
  obtain ⟨_, cur, hgb⟩ := rowE_block h2.1 (show (Value.slice (some ⟨g, 0, none⟩) Vs.length c).ownBlock = some g from rfl)
  refine ⟨x, l, g, c, A2, c2, hlm, hx2, h4x, by rw [← h3]; exact uw_cell (block_cell h1 0) hpx, by rw [← hx2]; exact uw_cell qs hgx, ⟨cur, hgb⟩, hgx, h4x.2, hpx, block_lt h1, HM⟩
theorem uw_ext {fp : Nat → Prop} {W w : World} (hW : Ext W w) (hfp : ∀ b, fp b → W.heap.size ≤ b) (p : UW fp w) : Ext W p.val :=
  ext_of_upd (upd_trans (upd_of_ext (fp := fun _ => False) hW) p.ok (fun i hi e => by have := hfp i e; omega))

set_option maxRecDepth 100000 in
theorem lay_step (k n : Int) (hk : k = 0 ∨ k = 1) (v : Value) (W w : World) (p m s : Nat) (bg en : Int) (mv : List Mv) (hv : PV W (.node k n []) v) (h : Cur W p bg en mv m w) (hs : s < m) (hm : m ≤ 90000) (hl : mv.length ≤ 90000) :
    Calls Try.prog 59 #[.pointer (some ⟨p, 0, none⟩), v, .int .i64 s] w fun e w' => e = .returned (.int .i64 m) ∧ Cur W p bg en (mv ++ [(s, some (n, decide (k = 1)), m)]) (m + 1) w' ∧ Upd (MT w) w w' := by
  have HV := Lib.hid hv
  obtain ⟨sv, rfl, hsv⟩ := hv
  obtain ⟨A0, c0, rfl⟩ := PS_form hsv
  clear hsv
  have HC := Lib.hid h
  have HK := Lib.hid hk
  have hkk : ∃ kb : Bool, (k == 0 || k == 1) = true := ⟨true, by rcases hk with rfl | rfl <;> rfl⟩
  clear h hkk
  have hE0 := Lib.hid (show Ext w (w.alloc (.cells #[.int .i64 k, .int .i64 n, .slice A0 ([] : List Tr).length c0] 30)) from ext_alloc (ext_refl _) _)
  have hB0 := Lib.hid (heap_alloc_new w (.cells #[.int .i64 k, .int .i64 n, .slice A0 ([] : List Tr).length c0] 30))
  have h01 : (k == 0) = true ∨ (k == 0) = false ∧ (k == 1) = true := by rcases hk with rfl | rfl <;> simp
  clear hk
  go_enter Try.func59, Try.ntmps59
  rcases h01 with h0 | ⟨h0, h1⟩
  all_goals
    go_wp2_with fail
    refine (state_cur W _ p m bg en mv (cur_ext HC.out hE0.out) (by omega)).mono ?_
    rintro e w2 ⟨rfl, hc2, hu2⟩
    have HU2 := Lib.hid (mt_trans (mt_ext hE0.out) hu2)
    have HB2 := Lib.hid (box_at hu2 hB0.out)
    have HC2 := Lib.hid hc2
    clear hc2 hu2
    go_wp2
    obtain ⟨Ms, hM, hML, hMH, hMS, hMW⟩ := HC2.out
    obtain ⟨x, l, g, c, A2, c2, hls, hx2, h4x, q0, q1, ⟨cur, hgb⟩, hgx, hfp, hpx, lp, HMm⟩ := mach_open hM hMW (by omega : s < Ms.length)
    have hln := hMS l (List.mem_of_getElem? hls)
    have HX2 := Lib.hid hx2
    have H4 := Lib.hid h4x
    have HG := Lib.hid hgb
    have HGX := Lib.hid hgx
    have HM := Lib.hid HMm
    have HMH := Lib.hid hMH
    have HMS := Lib.hid hMS
    have HML := Lib.hid hML
    have HMW := Lib.hid hMW
    have HFP := Lib.hid hfp
    have hbx : (slv x).ownBlock ≠ some w.heap.size := fun e => by
      obtain ⟨_, cu, h9⟩ := rowE_block h4x.1 e
      rw [HB2.out] at h9
      simp only [Option.some.injEq, Obj.cells.injEq] at h9
      exact absurd h9.2.1 (by decide)
    have b0 : ∀ pw : UW (fun b => (slv x).ownBlock = some b) w2, pw.val.cell? ⟨w.heap.size, 0, none⟩ = some (.int .i64 k) := uw_cell (block_cell HB2.out 0) hbx
    have b1 : ∀ pw : UW (fun b => (slv x).ownBlock = some b) w2, pw.val.cell? ⟨w.heap.size, 1, none⟩ = some (.int .i64 n) := uw_cell (block_cell HB2.out 1) hbx
    have b2 : ∀ pw : UW (fun b => (slv x).ownBlock = some b) w2, pw.val.cell? ⟨w.heap.size, 2, none⟩ = some (.slice A0 0 c0) := uw_cell (block_cell HB2.out 2) hbx
    have hsi : (s : Int) < (Ms.length : Int) := by omega
    have hmsl : Ms.length ≤ 100000 := by omega
    have hsi0 : (0 : Int) ≤ (s : Int) := by omega
    have HSY := Lib.hid (fun pw : UW (fun b => (slv x).ownBlock = some b) w2 => symbol_any k n [] _ pw.val (PV_ext HV.out (uw_ext hMW hfp pw)) HK.out)
    clear hls hx2 h4x hgb hgx HMm hMH hMS hML hMW hfp hpx hbx hM
    refine wp_region_upd (fp := fun b => (slv x).ownBlock = some b) [] [0, 1, 2, 3, 4, 5, 6, 7, 8, 9, 10, 11, 12, 13, 14, 15] [(16, oneF elM w2.heap.size (some (n, decide (k = 1)), m))] 17 (fun v w' => rowF elM W.heap.size (l ++ [(some (n, decide (k = 1)), m)]) v w' ∧ (v.ownBlock = (slv x).ownBlock ∨ ∀ b, v.ownBlock = some b → w2.heap.size ≤ b)) [18, 19] [16, 17] rfl (by kernel_rfl) (by kernel_rfl) (by kernel_rfl) (fun _ _ d _ _ h => by cases d <;> exact h) ?_
    refine wpPre_nil ?_
    repeat (refine wpU_step rfl (fun K hK => ?_); (try simp only [Oper.quietAt, Oper.quietUpon]); go_simp; first | (refine hK _ ?_; clear hK K) | (apply Exists.intro; refine ⟨fun p => ?_, hK _ ?_⟩; (go_at_call 80; exact HSY.out p); clear hK K))
    refine wpU_nil ?_
    refine wpGen_step rfl rfl oneF_ext (fun w6 hE6 hS6 => ?_) (fun v0 => ?_)
    · simp only [runsAt]
      go_simp
      exact ⟨ext_alloc (ext_refl _) _, _, rfl, ext_size hE6, heap_alloc_new w6 _⟩
    refine wpGen_nil ?_
    refine ⟨⟨_, rfl, rfl, fun v a b hE hR => ⟨rowF_ext _ _ _ hE hR.1, hR.2⟩⟩, fun w6 hE6 hS6 o ho => ?_, fun o ho v w6 hU6 hR6 => ?_⟩
    · cases ho
      have hone : oneF elM w2.heap.size (some (n, decide (k = 1)), m) v0 w6 := hS6 _ (List.mem_cons_self ..)
      refine runs_append (sv := .slice A2 l.length c2) (xv := v0) (.tmp 35) (.tmp 40) rfl rfl rfl ?_
      rw [← HX2.out]
      obtain ⟨v', w', hrun, hr, hg, hat⟩ := append_at tpM 112 W.heap.size (slv x) v0 l [(some (n, decide (k = 1)), m)] w6 (rowF_ext _ _ _ hE6 H4.out) (srcOf_one hone) (by simp; omega) (Nat.le_trans (ext_size HMW.out) (ext_size hE6))
      refine ⟨v', w', hrun, upd_grown hg, hr, ?_⟩
      rcases hat with h | h
      · exact .inl h
      · exact .inr (fun b hb => by rw [h] at hb; cases hb; exact ext_size hE6)
    · cases ho
      obtain ⟨A1, c1, hv1⟩ := rowE_form hR6.1.1
      subst hv1
      obtain ⟨hm1, hm2, hm3⟩ := HM.out _ w6 A1 _ c1 hU6 hR6.1 hR6.2
      obtain ⟨n1, hn1⟩ : ∃ n1, n1 = (l ++ [((some (n, decide (k = 1)), m) : Mo)]).length := ⟨_, rfl⟩
      rw [← hn1] at hm1 hm2 hm3 ⊢
      have HM1 := Lib.hid hm1
      have HM2 := Lib.hid hm2
      have HM3 := Lib.hid (mt_trans HU2.out hm3)
      have hgb6 := (hU6.block g (block_lt HG.out) HGX.out).trans HG.out
      have qf := block_frozen hgb6 s
      have lg6 := block_lt hgb6
      have q2 : w6.cell? ⟨g, s, none⟩ = some (.slice A2 l.length c2) := q1 ⟨w6, hU6⟩
      clear hm1 hm2 hm3 hR6 hU6 hgb6 q0 q1 hn1 b0 b1 b2
      refine wpSeq_of_list [18, 19] [_, _] _ _ rfl ?_
      go_wp2
      refine bodyPost_ret (results_tmp rfl _ _ _) rfl ?_
      refine ⟨rfl, ⟨_, HM1.out, (addM_len _ _ _).trans HML.out, fun s' o d' => (hasM_add (by omega)).trans ?_, fun l hl' => by rw [List.length_append]; exact addM_small HMS.out l hl', HM2.out⟩, HM3.out⟩
      rw [HMH.out, List.mem_append]
      simp
end Go.Proofs.Ytiabmdboacpmcaa
