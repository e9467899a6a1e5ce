/- Minus, Same: walked. -/
import Derived.Test.YtniggdaakiofeaaDoorDu
namespace Go.Proofs.YtniggdaakiofeaaDoor
open Go Go.RowKit Go.Sort Go.WideMaps Go.Maps
set_option maxHeartbeats 4000000
/- of this seat alone: 80 -/

theorem lookI_run {P : Program} {k e t : TypeId} {b N : Nat} {f : ByteArray → Int} {w : World} (hk : P.underlying k = some .string) (ht : P.underlying t = some (.map k e)) (he : P.underlying e = some (.int .i64)) (hz : (zeroValue e).run P w = .ok (.int .i64 0) w) (h : MapI P k e b N f w) {s : ByteArray} (hs : s.size ≤ maxLen) :
    (Instr.lookup t (.map (some b)) (.string s) false).run P w = .ok (.int .i64 (f s)) w := by
  obtain ⟨n, D, h1, h2, h4⟩ := h
  obtain ⟨c, hrun, hat, _⟩ := h2.lookup_int (string_keyed hk) ht he hz (keyOf_string_mk hk hs)
  have := h4 s hs
  rw [hat] at this
  simp only [DataW.lit.injEq, Lit.int.injEq, true_and] at this
  rw [hrun, this]
theorem zeroI (w : World) : (zeroValue 3).run Tryd.prog w = .ok (.int .i64 0) w := by
  have h : (zeroValue 3).run Tryd.prog w = (zeroValue 3).run Tryd.prog w := rfl
  rw [Tryd.zeroValue3]
theorem mapI_cell {P : Program} {k e : TypeId} {b N : Nat} {f : ByteArray → Int} {w : World} (h : MapI P k e b N f w) (o : Nat) : w.cell? ⟨b, o, none⟩ = none := by
  obtain ⟨n, D, _, ⟨es, clock, h2, _⟩, _⟩ := h
  simp [World.cell?, h2]
theorem mapI_tab {P : Program} {k e : TypeId} {b N : Nat} {f : ByteArray → Int} {w : World} (h : MapI P k e b N f w) (hT : TabP w) : b ≠ gTab := fun e => by
  have h1 := mapI_cell h 0
  rw [e, tabP_cell hT] at h1
  cases h1
abbrev MapG (mb N : Nat) (f : ByteArray → Int) (w : World) : Prop := MapI Tryd.prog 9 3 mb N f w
theorem egMF (args : Array Value) (w : World) : (callFunc 54 args).run Tryd.prog w = .ok (.enter 54 args) w := enter_fn Tryd.func54 (by kernel_rfl) rfl args w
set_option maxRecDepth 100000 in
theorem minusF_any (b5 mb N : Nat) (f : ByteArray → Int) (tv xv : Value) (V : List ByteArray) (R : List (List Int)) (x : List Int) (w : World) (hb : w.heap[b5]? = some (.cells #[.map (some mb)] 72 (0, 0))) (hm : MapG mb N f w) (hN : N ≤ 1000000) (ht : TabV w tv V R) (hx : RdI w xv x) (hti : TinyR x) (hl : x.length ≤ 1000) (hT : TabP w) (hf : -1000000 ≤ f (nameS x) ∧ f (nameS x) ≤ 1000000) :
    Calls Tryd.prog 54 #[tv, xv, .pointer (some ⟨b5, 0, none⟩)] w fun e w' => e = .returned (.bool (decide (f (nameS x) - 1 < 0))) ∧ Upd (fun b => b = mb) w w' ∧ MapG mb (N + 1) (fun s => if s = nameS x then f (nameS x) - 1 else f s) w' := by
  have hsz : (nameS x).size ≤ maxLen := by have := nameS_size hti; unfold maxLen; omega
  have CN := Lib.hid (fun w' (hT' : TabP w') (hr : RdI w' xv x) => name_any xv x w' hr hti hl hT')
  obtain ⟨nx, hnx⟩ : ∃ nx, nx = nameS x := ⟨_, rfl⟩
  rw [← hnx] at CN hsz hf ⊢
  obtain ⟨c, hc⟩ : ∃ c, c = f nx := ⟨_, rfl⟩
  rw [← hc] at hf ⊢
  obtain ⟨vv, rv, rfl, h1, h2⟩ := ht
  obtain ⟨A1, c1, rfl⟩ := rdS_form h1
  obtain ⟨A2, c2, rfl⟩ := rdW_form h2
  obtain ⟨A3, c3, rfl⟩ := rdI_form hx
  have hsub : IntKind.i64.wrap (c - 1) = c - 1 := IntWalk.i64_in _ (by omega)
  have HX := Lib.hid hx
  have HT := Lib.hid hT
  have HM := Lib.hid hm
  have HB := Lib.hid hb
  have HC := Lib.hid hc
  have HS := Lib.hid hsz
  obtain ⟨W, hW⟩ : ∃ W, W = w.alloc (.cells #[.slice A1 V.length c1, .slice A2 R.length c2] 31) := ⟨_, rfl⟩
  have hE0 : Ext w W := by rw [hW]; exact ext_alloc (ext_refl _) _
  have HE0 := Lib.hid hE0
  have hbW := (ext_block hE0 (block_lt hb)).trans hb
  have q0 : W.cell? ⟨b5, 0, none⟩ = some (.map (some mb)) := block_cell hbW 0
  have l0 := block_lt hbW
  have hlk : ∀ p : Regrown, (Instr.lookup 72 (.map (some mb)) (.string nx) false).run Tryd.prog (grow (redrawn W p.d) p.os) = .ok (.int .i64 c) (grow (redrawn W p.d) p.os) := fun p => by
    rw [hc]
    exact lookI_run Tryd.underlying9 Tryd.underlying72 Tryd.underlying3 (zeroI _) (mapI_ext hm (ext_trans hE0 (ext_grow (ext_refl _) _ _))) hsz
  have hgc := cell_grown
  clear hx hT hm hb hc hsz hE0 hbW hnx h1 h2
  go_enter Tryd.func54, Tryd.ntmps54
  go_wp2
  rw [← hW]
  clear hW
  refine wp_region_gen [] [0, 1, 2, 3, 4] [] [5] [] rfl (by kernel_rfl) (by kernel_rfl) (fun _ _ d _ _ h => by cases d <;> exact h) ?_
  refine wpPre_nil ?_
  repeat (refine wpLoose_step rfl (fun K hK => ?_); (try simp only [Oper.quietAt, Oper.quietUpon]); go_simp; first | (refine hK _ ?_; clear hK K) | (apply Exists.intro; refine ⟨fun p => ?_, hK _ ?_⟩; (go_at_call 53; exact CN.out _ (tabP_ext HT.out (ext_trans HE0.out (ext_grow (ext_refl _) _ _))) (rdI_ext HX.out (ext_trans HE0.out (ext_grow (ext_refl _) _ _)))); clear hK K))
  refine wpLoose_nil ?_
  refine wpGen_nil (fun w3 hE3 _ => ?_)
  have HE3 := Lib.hid (ext_trans HE0.out hE3)
  clear hE3 hlk hgc q0 l0
  refine wpSeq_of_list [5] [_] _ _ rfl ?_
  have HM3 := Lib.hid (mapI_ext HM.out HE3.out)
  refine wpList_update_I rfl (.tmp 6) (.tmp 8) (.tmp 10) 72 rfl Tryd.underlying9 Tryd.underlying72 Tryd.underlying3 rfl HM3.out (by unfold maxLen; omega) nx rfl HS.out (c - 1) rfl (WalkArith.wf_i64 (by omega)) ?_
  intro w4 hm4 hg4
  have hU34 := upd_grown hg4
  have hne : b5 ≠ mb := mapI_off HM.out HB.out
  have hb3 := (ext_block HE3.out (block_lt HB.out)).trans HB.out
  have hb4 := (hU34.block b5 (block_lt hb3) (fun e => hne (Option.some.inj e).symm)).trans hb3
  have HU4 := Lib.hid (show Upd (fun b => b = mb) w w4 from upd_trans (upd_of_ext HE3.out) hU34 (fun b _ e => (Option.some.inj e).symm))
  have HM4 := Lib.hid hm4
  have q0 : w4.cell? ⟨b5, 0, none⟩ = some (.map (some mb)) := block_cell hb4 0
  have l0 := block_lt hb4
  have HT4 := Lib.hid (tabP_upd HT.out HU4.out (fun e => mapI_tab HM.out HT.out e.symm))
  have HX4 := Lib.hid (rdI_off HX.out HU4.out (fun b e o => by rw [show b = mb from e]; exact mapI_cell HM.out o))
  have hlk : ∀ p : Regrown, (Instr.lookup 72 (.map (some mb)) (.string nx) false).run Tryd.prog (grow (redrawn w4 p.d) p.os) = .ok (.int .i64 (c - 1)) (grow (redrawn w4 p.d) p.os) := fun p => by
    have := lookI_run Tryd.underlying9 Tryd.underlying72 Tryd.underlying3 (zeroI _) (mapI_ext hm4 (ext_grow (ext_refl _) p.d p.os)) HS.out
    simpa using this
  have hgc := cell_grown
  clear hm4 hg4 hU34 hne hb3 hb4
  go_wp2
  refine wp_region_free 6 [0, 1, 2, 3, 4, 5] [] (by kernel_rfl) (by kernel_rfl) ?_
  repeat (refine wpLoose_step rfl (fun K hK => ?_); (try simp only [Oper.quietAt, Oper.quietUpon]); go_simp; first | (refine hK _ ?_; clear hK K) | (apply Exists.intro; refine ⟨fun p => ?_, hK _ ?_⟩; (go_at_call 53; exact CN.out _ (tabP_ext HT4.out (ext_grow (ext_refl _) _ _)) (rdI_ext HX4.out (ext_grow (ext_refl _) _ _))); clear hK K))
  refine wpLoose_nil (wpFresh_nil (fun w5 hE5 _ => ?_))
  simp only [List.drop_succ_cons, List.drop_zero]
  refine wpList_nil ?_
  have HU5 := Lib.hid (upd_ext HU4.out hE5)
  have HM5 := Lib.hid (mapI_ext HM4.out hE5)
  clear hE5 hlk hgc q0 l0
  go_wp2
  refine bodyPost_ret (results_tmp rfl _ _ _) rfl ?_
  exact ⟨rfl, HU5.out, HM5.out⟩
end Go.Proofs.YtniggdaakiofeaaDoor
