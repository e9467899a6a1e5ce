/- free and symbol. -/
import Derived.Test.YtiabmdboacpmcaaPf
namespace Go.Proofs.Ytiabmdboacpmcaa
open Go Go.RowKit Go.Sort
set_option maxHeartbeats 800000

theorem uw_cell {fp : Nat → Prop} {W : World} {b o : Nat} {v : Value} (hc : W.cell? ⟨b, o, none⟩ = some v) (hn : ¬ fp b) (p : UW fp W) : p.val.cell? ⟨b, o, none⟩ = some v :=
  (upd_cell p.ok (World.block_lt_of_cell? _ _ hc) hn o).trans hc

theorem free_any (W w : World) (p : Nat) (Ms : List (List Mo)) (bg en : Int) (s d : Nat) (h : MachAt W w p Ms bg en) (hW : Ext W w) (hl : Ms.length ≤ 100000) (hs : s < Ms.length) (hll : ∀ l ∈ Ms, l.length ≤ 100000) :
    Calls Try.prog 87 #[.pointer (some ⟨p, 0, none⟩), .int .i64 s, .int .i64 d] w fun e w' => e = .returned (.tuple #[]) ∧ MachAt W w' p (addM Ms s (none, d)) bg en ∧ Ext W w' ∧ Upd (MT w) w w' := by
  obtain ⟨hp, A, c, Vs, h1, h2, h3, h4, h5⟩ := h
  have hvl : Vs.length ≤ 100000 := by omega
  have hsv : s < Vs.length := by omega
  obtain ⟨x, hx⟩ : ∃ x, Vs[s]? = some x := ⟨_, List.getElem?_eq_getElem hsv⟩
  obtain ⟨l, hlm⟩ : ∃ l, Ms[s]? = some l := ⟨_, List.getElem?_eq_getElem hs⟩
  have hln := hll l (List.mem_of_getElem? hlm)
  have h4x := h4 s x l hx hlm
  obtain ⟨g, hg, lg⟩ := rowE_some h2.1 (fun e => by rw [e] at hsv; simp at hsv)
  have HM := Lib.hid (fun (w1 : World) (A1 : Option Addr) (n1 c1 : Nat) hu hr hat => mach_add (w1 := w1) (mv := (none, d)) (A1 := A1) (n1 := n1) (c1 := c1) hp h1 h2 h3 h4 h5 hg hx hlm hu hr hat hW)
  subst hg
  have hpx : (slv x).ownBlock ≠ some p := rowE_off h4x.1 h1 (by decide)
  have hgx : (slv x).ownBlock ≠ some g := fun e => el_apart h4x.1 h2.1 (by decide) e rfl
  obtain ⟨A2, c2, hx2⟩ := rowE_form h4x.1
  have qs : w.cell? ⟨g, s, none⟩ = some (slv x) := by
    have := rowE_cell h2.1 hx (j := 0) (u := slv x) rfl
    simpa [elV] using this
  have q0 : ∀ pw : UW (fun b => (slv x).ownBlock = some b) w, pw.val.cell? ⟨p, 0, none⟩ = some (.slice (some ⟨g, 0, none⟩) Vs.length c) := uw_cell (block_cell h1 0) hpx
  have q1 : ∀ pw : UW (fun b => (slv x).ownBlock = some b) w, pw.val.cell? ⟨g, s, none⟩ = some (.slice A2 l.length c2) := by rw [← hx2]; exact uw_cell qs hgx
  obtain ⟨_, cur, hgb⟩ := rowE_block h2.1 (show (Value.slice (some ⟨g, 0, none⟩) Vs.length c).ownBlock = some g from rfl)
  have HG := Lib.hid hgb
  have H4 := Lib.hid h4x
  have HX2 := Lib.hid hx2
  have HGX := Lib.hid hgx
  have HW := Lib.hid hW
  have hsi : (s : Int) < (Vs.length : Int) := by omega
  have hsi0 : (0 : Int) ≤ (s : Int) := by omega
  clear h1 h2 h3 h4 h5 hx hlm h4x hpx hgx qs hW hgb hx2 hll
  go_enter Try.func87, Try.ntmps87
  refine wp_region_upd (fp := fun b => (slv x).ownBlock = some b) [] [0, 1, 2, 3, 4, 5, 6, 7, 8, 9, 10, 11, 12, 13] [(14, oneF elM w.heap.size (none, d))] 15 (fun v w' => rowF elM W.heap.size (l ++ [(none, d)]) v w' ∧ (v.ownBlock = (slv x).ownBlock ∨ ∀ b, v.ownBlock = some b → w.heap.size ≤ b)) [16, 17] [14, 15] rfl (by kernel_rfl) (by kernel_rfl) (by kernel_rfl) (fun _ _ d _ _ h => by cases d <;> exact h) ?_
  refine wpPre_nil ?_
  repeat (refine wpU_step rfl (fun K hK => ?_); (try simp only [Oper.quietAt, Oper.quietUpon]); go_simp; (refine hK _ ?_; clear hK K))
  refine wpU_nil ?_
  refine wpGen_step rfl rfl oneF_ext (fun w6 hE6 hS6 => ?_) (fun v0 => ?_)
  · simp only [runsAt]
    go_simp
    exact ⟨ext_alloc (ext_refl _) _, _, rfl, ext_size hE6, heap_alloc_new w6 _⟩
  refine wpGen_nil ?_
  refine ⟨⟨_, rfl, rfl, fun v a b hE hR => ⟨rowF_ext _ _ _ hE hR.1, hR.2⟩⟩, fun w6 hE6 hS6 o ho => ?_, fun o ho v w6 hU6 hR6 => ?_⟩
  · cases ho
    have hone : oneF elM w.heap.size (none, d) v0 w6 := hS6 _ (List.mem_cons_self ..)
    refine runs_append (sv := .slice A2 l.length c2) (xv := v0) (.tmp 17) (.tmp 20) rfl rfl rfl ?_
    rw [← HX2.out]
    obtain ⟨v', w', hrun, hr, hg, hat⟩ := append_at tpM 112 W.heap.size (slv x) v0 l [(none, d)] w6 (rowF_ext _ _ _ hE6 H4.out) (srcOf_one hone) (by simp; omega) (Nat.le_trans (ext_size HW.out) (ext_size hE6))
    refine ⟨v', w', hrun, upd_grown hg, hr, ?_⟩
    rcases hat with h | h
    · exact .inl h
    · exact .inr (fun b hb => by rw [h] at hb; cases hb; exact ext_size hE6)
  · cases ho
    obtain ⟨A1, c1, hv1⟩ := rowE_form hR6.1.1
    subst hv1
    obtain ⟨hm1, hm2, hm3⟩ := HM.out w6 A1 _ c1 hU6 hR6.1 hR6.2
    obtain ⟨n1, hn1⟩ : ∃ n1, n1 = (l ++ [((none, d) : Mo)]).length := ⟨_, rfl⟩
    rw [← hn1] at hm1 hm2 hm3 ⊢
    have HM3 := Lib.hid hm3
    have HM1 := Lib.hid hm1
    have HM2 := Lib.hid hm2
    have hgb6 := (hU6.block g (block_lt HG.out) HGX.out).trans HG.out
    have qf := block_frozen hgb6 s
    have lg6 := block_lt hgb6
    have q2 : w6.cell? ⟨g, s, none⟩ = some (.slice A2 l.length c2) := q1 ⟨w6, hU6⟩
    clear hm1 hm2 hm3 hR6 hU6 hgb6 q0 q1 hn1
    refine wpSeq_of_list [16, 17] [_, _] _ _ rfl ?_
    go_wp2
    go_end0
    exact ⟨rfl, HM1.out, HM2.out, HM3.out⟩

theorem symbol_any (k n : Int) (ps : List Tr) (v : Value) (w : World) (hv : PV w (.node k n ps) v) (hk : k = 0 ∨ k = 1) : Calls Try.prog 80 #[v] w fun e w' => e = .returned (.agg #[.int .i64 n, .bool (decide (k = 1))]) ∧ Ext w w' := by
  obtain ⟨s, rfl, hs⟩ := hv
  clear hs
  rcases hk with rfl | rfl
  · go_enter Try.func80, Try.ntmps80
    go_wp2
    refine bodyPost_ret (v := .agg #[.int .i64 n, .bool false]) (by simp [results, Try.results80, go_sem]) rfl ?_
    exact ⟨by simp, ext_alloc (ext_alloc (ext_refl _) _) _⟩
  · go_enter Try.func80, Try.ntmps80
    go_wp2
    refine bodyPost_ret (v := .agg #[.int .i64 n, .bool true]) (by simp [results, Try.results80, go_sem]) rfl ?_
    exact ⟨by simp, ext_alloc (ext_alloc (ext_refl _) _) _⟩
end Go.Proofs.Ytiabmdboacpmcaa
