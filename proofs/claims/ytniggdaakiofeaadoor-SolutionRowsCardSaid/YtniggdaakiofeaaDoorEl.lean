/- Maps from strings to bools; Distinct. -/
import Derived.Maps.OwnOps
import Derived.StringKeys
import Derived.Maps.Views
import Derived.Test.YtniggdaakiofeaaDoorGm
import Derived.Test.YtniggdaakiofeaaDoorDw
import Derived.Test.YtniggdaakiofeaaDoorEe
namespace Go.Proofs.YtniggdaakiofeaaDoor
open Go Go.Maps Go.RowKit Go.Sort Go.WideMaps
set_option maxHeartbeats 4000000
/- of this seat alone: 80 -/

def MapB (P : Program) (k e : TypeId) (b N : Nat) (f : ByteArray → Bool) (w : World) : Prop :=
  ∃ (n : Nat) (D : DataW Unit), n ≤ N ∧ w.ownsMap P k (plainElem P e) b n D ∧ ∀ s : ByteArray, s.size ≤ maxLen → D.atKey (.string s.data.toList) (.lit (.bool false)) = .lit (.bool (f s))
section
variable {P : Program} {k e : TypeId} {b N : Nat} {f : ByteArray → Bool}
theorem mapB_made (w : World) : MapB P k e w.heap.size 0 (fun _ => false) (w.alloc (.map #[] 0)) :=
  ⟨0, .map [], Nat.le_refl _, World.ownsMap_made w P k _, fun _ _ => rfl⟩
theorem mapB_lt {w : World} (h : MapB P k e b N f w) : b < w.heap.size := by
  obtain ⟨n, D, _, ⟨es, clock, hb, _⟩, _⟩ := h
  exact block_lt hb
theorem mapB_block {w w' : World} (h : MapB P k e b N f w) (hb : w'.heap[b]? = w.heap[b]?) : MapB P k e b N f w' := by
  obtain ⟨n, D, h1, ⟨es, clock, h2, h3⟩, h4⟩ := h
  exact ⟨n, D, h1, ⟨es, clock, hb.trans h2, h3⟩, h4⟩
theorem mapB_ext {w w' : World} (h : MapB P k e b N f w) (hE : Ext w w') : MapB P k e b N f w' := mapB_block h (ext_block hE (mapB_lt h))
theorem mapB_off {w : World} (h : MapB P k e b N f w) {cs : Array Value} {t : TypeId} {fr : Nat × Nat} {g : Nat} (hg : w.heap[g]? = some (.cells cs t fr)) : g ≠ b := fun e => by
  obtain ⟨n, D, h1, ⟨es, clock, h2, h3⟩, h4⟩ := h
  subst e
  rw [h2] at hg
  cases hg
theorem mapB_congr {w : World} {f' : ByteArray → Bool} {N' : Nat} (h : MapB P k e b N f w) (hf : ∀ s, f s = f' s) (hN : N ≤ N') : MapB P k e b N' f' w := by
  obtain ⟨n, D, h1, h2, h4⟩ := h
  exact ⟨n, D, Nat.le_trans h1 hN, h2, fun s hs => by rw [h4 s hs, hf s]⟩
theorem wpList_update_B {w : World} {ops : Array Oper} {rest : List Oper} {o : Oper} {a : Act} {Q : Exit → Act → World → Prop} (hg : o.guard = none) (m x v : Operand) (t : TypeId) (hop : o.op = Op.mapUpdate t m x v)
    (hk : P.underlying k = some .string) (ht : P.underlying t = some (.map k e)) (he : P.underlying e = some .bool)
    (hm : a.eval m = .map (some b)) (h : MapB P k e b N f w) (hN : N < maxLen) (s : ByteArray) (hx : a.eval x = .string s) (hs : s.size ≤ maxLen) (c : Bool) (hv : a.eval v = .bool c)
    (hK : ∀ w', MapB P k e b (N + 1) (fun s' => if s' = s then c else f s') w' → w.grownBy w' (some b) → wpList P ops Q rest (a.put o.dst undef) w') : wpList P ops Q (o :: rest) a w := by
  obtain ⟨n, D, h1, h2, h4⟩ := h
  refine wpList_mapUpdate_own w hg m x v t hop k e (string_keyed hk) ht (plainElem P e) b n D hm h2 (by omega) (.string s) (.bool c) (.string s.data.toList) hx hv (keyOf_string_mk hk hs) (.lit (.bool c)) [] (plainElem_bool he c) (fun w' h5 h6 => hK w' ⟨n + 1, _, by omega, h5, fun s' hs' => ?_⟩ h6)
  obtain ⟨es, hes⟩ := isMap_of_own h2
  by_cases e : s' = s
  · subst e
    simp only [if_true]
    exact Maps.atKey_put_same (by rw [hes]; exact ⟨_, rfl⟩) (by exact trivial) _ _
  · simp only [if_neg e]
    rw [Maps.atKey_put_other]
    · exact h4 s' hs'
    · intro hh
      simp only [Lit.string.injEq] at hh
      exact e (by
        cases s'; cases s
        simp at hh
        rw [hh])
theorem plainElem_bool_inv {he : P.underlying e = some .bool} {v : Value} {z : DataW Unit × List MemPlace} (h : plainElem P e v = some z) : ∃ a, v = .bool a ∧ z = (.lit (.bool a), []) := by
  unfold plainElem at h
  rw [he] at h
  cases v <;> simp at h
  exact ⟨_, rfl, h.symm⟩
theorem lookB_run {t : TypeId} {w : World} (hk : P.underlying k = some .string) (ht : P.underlying t = some (.map k e)) (he : P.underlying e = some .bool) (hz : (zeroValue e).run P w = .ok (.bool false) w) (h : MapB P k e b N f w) {s : ByteArray} (hs : s.size ≤ maxLen) :
    (Instr.lookup t (.map (some b)) (.string s) false).run P w = .ok (.bool (f s)) w := by
  obtain ⟨n, D, h1, h2, h4⟩ := h
  obtain ⟨v, ps, hrun, hv⟩ := h2.lookup (string_keyed hk) ht hz (plainElem_bool he false) (keyOf_string_mk hk hs)
  obtain ⟨c, rfl, hc⟩ := plainElem_bool_inv (he := he) hv
  simp only [Prod.mk.injEq] at hc
  have := h4 s hs
  rw [hc.1] at this
  simp only [DataW.lit.injEq, Lit.bool.injEq] at this
  rw [hrun, this]
theorem mapB_cell {w : World} (h : MapB P k e b N f w) (o : Nat) : w.cell? ⟨b, o, none⟩ = none := by
  obtain ⟨n, D, _, ⟨es, clock, h2, _⟩, _⟩ := h
  simp [World.cell?, h2]
end
theorem zeroB (w : World) : (zeroValue 4).run Tryd.prog w = .ok (.bool false) w := by
  rw [Tryd.zeroValue4]
abbrev MapH (mb N : Nat) (f : ByteArray → Bool) (w : World) : Prop := MapB Tryd.prog 9 4 mb N f w
theorem mapB_tab {N mb : Nat} {f : ByteArray → Bool} {w : World} (h : MapH mb N f w) (hT : TabP w) : mb ≠ gTab := fun e => by
  have h1 := mapB_cell h 0
  rw [e, tabP_cell hT] at h1
  cases h1
theorem egDF (args : Array Value) (w : World) : (callFunc 62 args).run Tryd.prog w = .ok (.enter 62 args) w := enter_fn Tryd.func62 (by kernel_rfl) rfl args w
set_option maxRecDepth 100000 in
theorem distF_any (b5 mb N : Nat) (f : ByteArray → Bool) (tv xv : Value) (V : List ByteArray) (R : List (List Int)) (x : List Int) (w : World) (hb : w.heap[b5]? = some (.cells #[.map (some mb)] 82 (0, 0))) (hm : MapH mb N f w) (hN : N ≤ 1000000) (ht : TabV w tv V R) (hx : RdI w xv x) (hti : TinyR x) (hl : x.length ≤ 1000) (hT : TabP w) :
    Calls Tryd.prog 62 #[tv, xv, .pointer (some ⟨b5, 0, none⟩)] w fun e w' => e = .returned (.bool (!f (nameS x))) ∧ Upd (fun b => b = mb) w w' ∧ MapH mb (N + 1) (fun s => if s = nameS x then true else f s) w' := by
  have hsz : (nameS x).size ≤ maxLen := by have := nameS_size hti; unfold maxLen; omega
  have CN := Lib.hid (fun w' (hT' : TabP w') (hr : RdI w' xv x) => name_any xv x w' hr hti hl hT')
  obtain ⟨nx, hnx⟩ : ∃ nx, nx = nameS x := ⟨_, rfl⟩
  rw [← hnx] at CN hsz ⊢
  obtain ⟨c, hc⟩ : ∃ c, c = f nx := ⟨_, rfl⟩
  rw [← hc]
  obtain ⟨vv, rv, rfl, h1, h2⟩ := ht
  obtain ⟨A1, c1, rfl⟩ := rdS_form h1
  obtain ⟨A2, c2, rfl⟩ := rdW_form h2
  obtain ⟨A3, c3, rfl⟩ := rdI_form hx
  have HX := Lib.hid hx
  have HT := Lib.hid hT
  have HM := Lib.hid hm
  have HB := Lib.hid hb
  have HC := Lib.hid hc
  have HS := Lib.hid hsz
  obtain ⟨W, hW⟩ : ∃ W, W = w.alloc (.cells #[.slice A1 V.length c1, .slice A2 R.length c2] 31) := ⟨_, rfl⟩
  have hE0 : Ext w W := by rw [hW]; exact ext_alloc (ext_refl _) _
  have HE0 := Lib.hid hE0
  have hbW := (ext_block hE0 (block_lt hb)).trans hb
  have q0 : W.cell? ⟨b5, 0, none⟩ = some (.map (some mb)) := block_cell hbW 0
  have l0 := block_lt hbW
  have hlk : ∀ p : Regrown, (Instr.lookup 82 (.map (some mb)) (.string nx) false).run Tryd.prog (grow (redrawn W p.d) p.os) = .ok (.bool c) (grow (redrawn W p.d) p.os) := fun p => by
    rw [hc]
    exact lookB_run Tryd.underlying9 Tryd.underlying82 Tryd.underlying4 (zeroB _) (mapB_ext hm (ext_trans hE0 (ext_grow (ext_refl _) _ _))) hsz
  have hgc := cell_grown
  clear hx hT hm hb hc hsz hE0 hbW hnx h1 h2
  go_enter Tryd.func62, Tryd.ntmps62
  go_wp2
  rw [← hW]
  clear hW
  refine wp_region_free 5 [0, 1, 2, 3, 4] [] (by kernel_rfl) (by kernel_rfl) ?_
  repeat (refine wpLoose_step rfl (fun K hK => ?_); (try simp only [Oper.quietAt, Oper.quietUpon]); go_simp; first | (refine hK _ ?_; clear hK K) | (apply Exists.intro; refine ⟨fun p => ?_, hK _ ?_⟩; (go_at_call 53; exact CN.out _ (tabP_ext HT.out (ext_trans HE0.out (ext_grow (ext_refl _) _ _))) (rdI_ext HX.out (ext_trans HE0.out (ext_grow (ext_refl _) _ _)))); clear hK K))
  refine wpLoose_nil (wpFresh_nil (fun w3 hE3 _ => ?_))
  simp only [List.drop_succ_cons, List.drop_zero]
  have HE3 := Lib.hid (ext_trans HE0.out hE3)
  have HM3 := Lib.hid (mapB_ext HM.out HE3.out)
  have hb3 := (ext_block HE3.out (block_lt HB.out)).trans HB.out
  clear hE3 hlk hgc q0 l0
  have q0 : w3.cell? ⟨b5, 0, none⟩ = some (.map (some mb)) := block_cell hb3 0
  have l0 := block_lt hb3
  have HX3 := Lib.hid (rdI_ext HX.out HE3.out)
  have HT3 := Lib.hid (tabP_ext HT.out HE3.out)
  have hgc := cell_grown
  clear hb3
  go_wp2
  refine wp_region_gen [] [0, 1, 2] [] [3] [] rfl (by kernel_rfl) (by kernel_rfl) (fun _ _ d _ _ h => by cases d <;> exact h) ?_
  refine wpPre_nil ?_
  repeat (refine wpLoose_step rfl (fun K hK => ?_); (try simp only [Oper.quietAt, Oper.quietUpon]); go_simp; first | (refine hK _ ?_; clear hK K) | (apply Exists.intro; refine ⟨fun p => ?_, hK _ ?_⟩; (go_at_call 53; exact CN.out _ (tabP_ext HT3.out (ext_grow (ext_refl _) _ _)) (rdI_ext HX3.out (ext_grow (ext_refl _) _ _))); clear hK K))
  refine wpLoose_nil ?_
  refine wpGen_nil (fun w4 hE4 _ => ?_)
  have HE4 := Lib.hid hE4
  have HM4 := Lib.hid (mapB_ext HM3.out hE4)
  clear hE4 q0 l0 hgc
  refine wpSeq_of_list [3] [_] _ _ rfl ?_
  refine wpList_update_B rfl (.tmp 12) (.tmp 14) _ 82 rfl Tryd.underlying9 Tryd.underlying82 Tryd.underlying4 rfl HM4.out (by unfold maxLen; omega) nx rfl HS.out true rfl ?_
  intro w5 hm5 hg5
  have HU5 := Lib.hid (show Upd (fun b => b = mb) w w5 from upd_trans (upd_of_ext (ext_trans HE3.out HE4.out)) (upd_grown hg5) (fun b _ e => (Option.some.inj e).symm))
  have HM5 := Lib.hid hm5
  clear hm5 hg5
  go_wp2
  refine bodyPost_ret (results_tmp rfl _ _ _) rfl ?_
  exact ⟨rfl, HU5.out, mapB_congr HM5.out (fun s => by by_cases e : s = nx <;> simp [e]) (Nat.le_refl _)⟩
/-- the rows that stand first, by their numbers -/
def okN (R : List (List Int)) (i : Nat) : Bool := decide ((R.take i).count (R.getD i []) = 0)
def seenF (R : List (List Int)) (i : Nat) (s : ByteArray) : Bool := decide (0 < cntN (R.take i) s)
theorem seenF_ok {R : List (List Int)} {i : Nat} {x : List Int} (hR : ∀ y ∈ R, TinyR y) (hx : R[i]? = some x) : (!seenF R i (nameS x)) = okN R i := by
  unfold seenF okN
  rw [count_names (fun y hy => hR y (List.mem_of_mem_take hy)) (hR x (List.mem_of_getElem? hx)), List.getD_eq_getElem?_getD, hx, Option.getD_some]
  by_cases h : (R.take i).count x = 0
  · rw [decide_eq_false (by omega), decide_eq_true h]; rfl
  · rw [decide_eq_true (by omega), decide_eq_false h]; rfl
theorem seenF_next {R : List (List Int)} {i : Nat} {x : List Int} (hx : R[i]? = some x) (s : ByteArray) : (if s = nameS x then true else seenF R i s) = seenF R (i + 1) s := by
  unfold seenF
  rw [cntN_next hx]
  by_cases e : s = nameS x
  · rw [if_pos e, if_pos e.symm]; exact (decide_eq_true (by omega)).symm
  · rw [if_neg e, if_neg (fun h => e h.symm)]; rfl
theorem dist_filter (b5 mb : Nat) (vv rv : Value) (V : List ByteArray) (R : List (List Int)) (w : World) (ht : TabV w (.agg #[vv, rv]) V R) (hT : TabP w) (hb : w.heap[b5]? = some (.cells #[.map (some mb)] 82 (0, 0))) (hm : MapH mb 0 (fun _ => false) w)
    (hv : V.length ≤ 1000) (hr : R.length ≤ 100000) (hR : ∀ y ∈ R, TinyR y) (hrl : ∀ y ∈ R, y.length ≤ 1000) :
    Calls Tryd.prog 27 #[.agg #[vv, rv], .func (.func 62) #[] #[.pointer (some ⟨b5, 0, none⟩)]] w fun e w' => ∃ vv rv, e = .returned (.agg #[vv, rv]) ∧ Own w.heap.size w' vv rv V (keepN (okN R) R R.length) ∧ Upd (fun b => b = mb) w w' := by
  have hne : b5 ≠ mb := mapB_off hm hb
  have hlm := mapB_lt hm
  have hlb := block_lt hb
  refine (filter_any 62 #[.pointer (some ⟨b5, 0, none⟩)] egDF (fun b => b = mb) (fun i w' => MapH mb i (seenF R i) w' ∧ w'.heap[b5]? = some (.cells #[.map (some mb)] 82 (0, 0))) (okN R) vv rv V R w ht
    (fun b e o => by rw [show b = mb from e]; exact mapB_cell hm o) (fun b e => by rw [show b = mb from e]; exact hlm) (fun i w1 w2 hw h hU => ⟨mapB_block h.1 (hU.block mb (by omega) (by omega)), (hU.block b5 (by omega) (by omega)).trans h.2⟩)
    ⟨mapB_congr hm (fun s => by simp [seenF, cntN]) (Nat.le_refl _), hb⟩ (by omega) hr (fun x hx => by have := hrl x hx; omega) (fun i x xv w1 hx hU htv hri hI => ?_)).mono ?_
  · have hxm := List.mem_of_getElem? hx
    have hil : i < R.length := (List.getElem?_eq_some_iff.1 hx).1
    refine (distF_any b5 mb i (seenF R i) _ xv V R x w1 hI.2 hI.1 (by omega) htv hri (hR x hxm) (hrl x hxm) (tabP_upd hT hU (fun e => mapB_tab hm hT e.symm))).mono ?_
    rintro e w2 ⟨rfl, hU2, hm2⟩
    exact ⟨by rw [seenF_ok hR hx], hU2, mapB_congr hm2 (fun s => seenF_next hx s) (Nat.le_refl _), (hU2.block b5 (block_lt hI.2) hne).trans hI.2⟩
  · rintro e w' ⟨vv', rv', he, how, hU, _⟩
    exact ⟨vv', rv', he, how, hU⟩
set_option maxRecDepth 100000 in
theorem distinct_any (avv arv : Value) (U : List ByteArray) (R : List (List Int)) (w : World) (ha : TabV w (.agg #[avv, arv]) U R) (hT : TabP w) (hu : U.length ≤ 1000) (hr : R.length ≤ 100000) (hR : ∀ y ∈ R, TinyR y) (hrl : ∀ y ∈ R, y.length ≤ 1000) :
    Calls Tryd.prog 34 #[.agg #[avv, arv]] w fun e w' => ∃ vv rv, e = .returned (.agg #[vv, rv]) ∧ Own w.heap.size w' vv rv U (keepN (okN R) R R.length) ∧ Ext w w' := by
  obtain ⟨a1, a2⟩ := tabV_parts ha
  obtain ⟨A1, c1, rfl⟩ := rdS_form a1
  obtain ⟨A2, c2, rfl⟩ := rdW_form a2
  have HA := Lib.hid ha
  have HT := Lib.hid hT
  have HTR := Lib.hid hR
  have HRL := Lib.hid hrl
  have hmm := @run_makeMap Tryd.prog
  clear ha a1 a2 hT hR hrl
  obtain ⟨W, hW⟩ : ∃ W, W = (((w.alloc (.cells #[.slice A1 U.length c1, .slice A2 R.length c2] 31)).alloc (.cells #[.slice none 0 0, .slice none 0 0] 31)).alloc (.map #[] 0)).alloc (.cells #[.map (some (w.heap.size + 1 + 1))] 82) := ⟨_, rfl⟩
  have hE : Ext ((((w.alloc (.cells #[.slice A1 U.length c1, .slice A2 R.length c2] 31)).alloc (.cells #[.slice none 0 0, .slice none 0 0] 31)).alloc (.map #[] 0)).alloc (.cells #[.map (some (w.heap.size + 1 + 1))] 82)) W := by rw [hW]; exact ext_refl _
  have hmk := mapB_ext (P := Tryd.prog) (k := 9) (e := 4) (mapB_made _) (ext_trans (ext_alloc (ext_refl _) _) hE)
  simp only [World.size_alloc] at hmk
  obtain ⟨hE, g0, g1, -, g3⟩ := ext4 hE
  obtain ⟨b0, hb0⟩ : ∃ b, b = w.heap.size := ⟨_, rfl⟩
  obtain ⟨b2, hb2⟩ : ∃ b, b = w.heap.size + 1 := ⟨_, rfl⟩
  obtain ⟨mb, hmb⟩ : ∃ b, b = w.heap.size + 1 + 1 := ⟨_, rfl⟩
  obtain ⟨b5, hb5⟩ : ∃ b, b = w.heap.size + 1 + 1 + 1 := ⟨_, rfl⟩
  rw [← hb5, ← hmb] at g3
  rw [← hmb] at hmk
  rw [← hb2] at g1
  rw [← hb0] at g0
  have HNE := Lib.hid (show b0 ≠ mb ∧ b2 ≠ mb ∧ b5 ≠ mb by omega)
  have HWH := Lib.hid (show w.heap.size ≤ mb by omega)
  have HWB := Lib.hid (show w.heap.size ≤ b2 by omega)
  have G0 := Lib.hid g0
  have G2 := Lib.hid g1
  have G5 := Lib.hid g3
  have HE1 := Lib.hid hE
  have HM1 := Lib.hid hmk
  have q0 : W.cell? ⟨b0, 0, none⟩ = some (.slice A1 U.length c1) := block_cell g0 0
  have q1 : W.cell? ⟨b0, 1, none⟩ = some (.slice A2 R.length c2) := block_cell g0 1
  have l0 := block_lt g0
  clear hE hmk g0 g1 g3
  go_enter Tryd.func34, Tryd.ntmps34
  go_wp2_with fail
  rw [← hW, ← hb5, ← hb2]
  clear hmm hW hb0 hb2 hmb hb5 q0 q1 l0
  refine (dist_filter b5 mb _ _ U R W (tabV_ext HA.out HE1.out) (tabP_ext HT.out HE1.out) G5.out HM1.out hu hr HTR.out HRL.out).mono ?_
  rintro e w7 ⟨v7, r7, rfl, how, hU7⟩
  have hnq : b0 ≠ mb ∧ b2 ≠ mb ∧ b5 ≠ mb := HNE.out
  have hb27 := (hU7.block b2 (block_lt G2.out) hnq.2.1).trans G2.out
  have r0 : w7.cell? ⟨b2, 0, none⟩ = some (.slice none 0 0) := block_cell hb27 0
  have r1 : w7.cell? ⟨b2, 1, none⟩ = some (.slice none 0 0) := block_cell hb27 1
  have s0 : w7.frozen? ⟨b2, 0, none⟩ = false := block_frozen hb27 0
  have s1 : w7.frozen? ⟨b2, 1, none⟩ = false := block_frozen hb27 1
  have l2 := block_lt hb27
  obtain ⟨NN, hNN⟩ : ∃ NN, NN = keepN (okN R) R R.length := ⟨_, rfl⟩
  rw [← hNN] at how
  have DNN := Lib.hid hNN
  obtain ⟨A7, c7, rfl⟩ := rdS_form (rdS_row how.1.1)
  obtain ⟨A8, c8, rfl⟩ := rdW_form (own_rdW how)
  have HOW := Lib.hid how
  have HB27 := Lib.hid hb27
  have HBW := Lib.hid (show b2 < W.heap.size from block_lt G2.out)
  have HE7 := Lib.hid (show Ext w w7 from ext_upd HE1.out hU7 (fun b e => by have : b = mb := e; have := HWH.out; omega))
  have HW2 := Lib.hid (show w.heap.size ≤ b2 from HWB.out)
  clear how hb27 hU7 hNN hnq
  go_wp2
  obtain ⟨wf, hwf⟩ : ∃ wf, wf = (w7.setCell ⟨b2, 0, none⟩ (.slice A7 U.length c7)).setCell ⟨b2, 1, none⟩ (.slice A8 NN.length c8) := ⟨_, rfl⟩
  obtain ⟨t0, t1, ho, he⟩ := fin_tab (H := W.heap.size) (w := w) hwf HOW.out HB27.out HBW.out HW2.out HE7.out
  rw [← hwf]
  refine bodyPost_ret (v := .agg #[.slice A7 U.length c7, .slice A8 NN.length c8]) (by simp [results, Tryd.results34, go_sem, t0, t1]) rfl ?_
  rw [← DNN.out]
  exact ⟨_, _, rfl, ho, he⟩
end Go.Proofs.YtniggdaakiofeaaDoor
