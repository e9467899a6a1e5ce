/- ReachOrders: in whatever order edges come, and whichever went again, the pairs are those of the edges that are there. No condition. -/
import Derived.Test.YtiabmdboacpmcaaY26
import Derived.Test.YtiabmdboacpmcaaY29
import Derived.Test.YtiabmdboacpmcaaY25
import Derived.Deep.MidRow
import Derived.Test.YtiabmdboacpmcaaY28
/- Of: the pairs of edges. -/
namespace Go.Proofs.Ytiabmdboacpmcaa
open Go Go.RowKit Go.Sort Go.WideMaps Go.Maps
set_option maxHeartbeats 4000000

def doneL (f : Gr3) (done : List Key) : List Ed := done.map fun k => (k, (f k).getD 0)
theorem doneL_snoc (f : Gr3) (done : List Key) (k : Key) : doneL f (done ++ [k]) = doneL f done ++ [(k, (f k).getD 0)] := by simp [doneL]
theorem doneL_nd {f : Gr3} {done : List Key} (h : done.Nodup) : KeysNd (doneL f done) := by
  unfold KeysNd doneL
  rw [List.map_map]
  have : ((fun e : Ed => e.1) ∘ fun k => (k, (f k).getD 0)) = fun k : Key => k := rfl
  rw [this, List.map_id']
  exact h
theorem doneL_add {f : Gr3} {done : List Key} {k : Key} {u : Int} (hk : k ∉ done) (hu : f k = some u) : addL (doneL f done) k u = doneL f (done ++ [k]) := by
  rw [addL_none, doneL_snoc, hu]
  · rfl
  · intro e he hc
    unfold doneL at he
    obtain ⟨k', h1, rfl⟩ := List.mem_map.1 he
    simp only at hc
    rw [hc] at h1
    exact hk h1
theorem doneL_all {f : Gr3} {done : List Key} (hnd : done.Nodup) (hs : ∀ k ∈ done, (f k).isSome = true) (hall : ∀ k, (f k).isSome = true → k ∈ done) : grOf (doneL f done) = f := by
  funext k
  refine Option.ext fun u => ?_
  rw [grOf_some (doneL_nd hnd)]
  unfold doneL
  rw [List.mem_map]
  constructor
  · rintro ⟨k', h1, h2⟩
    simp only [Prod.mk.injEq] at h2
    obtain ⟨v, hv⟩ := Option.isSome_iff_exists.1 (hs k' h1)
    rw [hv] at h2
    rw [← h2.1, hv, ← h2.2]
    rfl
  · intro h1
    exact ⟨k, hall k (by rw [h1]; rfl), by rw [h1]; rfl⟩
def OfTo (t : Tr) (f : Gr3) (w : World) (e : Ending) (w' : World) : Prop := ∃ qb N p, e = .returned (.tuple #[.map (some qb), .int .i64 0]) ∧ MapQ qb N p w' ∧ PrsOf (Words t) f p ∧ Ext w w'
set_option maxRecDepth 100000 in
theorem of_any (t : Tr) (v : Value) (f : Gr3) (be NE : Nat) (ks : List Key) (w : World) (hv : PV w t v) (hc : chk t = 0) (hm : MapE be NE f w) (hC : Card f ks) (hkl : ks.length ≤ 80) (hr : ∀ k u, f k = some u → rightB k u = true) :
    Calls Try.prog 52 #[v, .map (some be)] w (OfTo t f w) := by
  obtain ⟨kd, nn, A0, n0, c0, rfl⟩ : ∃ k n A l c, v = .agg #[.int .i64 k, .int .i64 n, .slice A l c] := by
    obtain ⟨k, n, ps⟩ := t
    obtain ⟨s, rfl, hs⟩ := hv
    obtain ⟨A, c, rfl⟩ := PS_form hs
    exact ⟨k, n, A, _, c, rfl⟩
  have hE0 := ext_alloc (ext_refl w) (.cells #[.int .i64 kd, .int .i64 nn, .slice A0 n0 c0] 30)
  have HE0 := Lib.hid hE0
  have CN := Lib.hid (new_z t _ 10000 _ (PV_ext hv hE0) hc (by omega))
  have HM := Lib.hid hm
  have HC := Lib.hid hC
  have HRT := Lib.hid hr
  have HN := Lib.hid (card_len hC hm)
  have hne : NE ≤ 80 := by rw [card_len hC hm]; exact hkl
  clear hv hc hm hC hkl hr hE0
  go_enter Try.func52, Try.ntmps52
  go_wp2_with fail
  refine CN.out.mono ?_
  rintro e w1 ⟨L, rfl, hZ, hE1⟩
  have HS0 := Lib.hid (show w.heap.size ≤ (w.alloc (.cells #[.int .i64 kd, .int .i64 nn, .slice A0 n0 c0] 30)).heap.size from ext_size HE0.out)
  obtain ⟨G, hG⟩ : ∃ G : Nat → Prop, G = fun b => (w.alloc (.cells #[.int .i64 kd, .int .i64 nn, .slice A0 n0 c0] 30)).heap.size ≤ b ∧ b < w1.heap.size := ⟨_, rfl⟩
  rw [← hG] at hZ
  have HG := Lib.hid hG
  have HZ1 := Lib.hid hZ
  have HE1 := Lib.hid (ext_trans HE0.out hE1)
  clear hZ hE1 CN hG
  go_wp2_with (first
    | (at_range; refine wpList_range_G _ rfl _ _ rfl Try.underlying95 rfl (mapG_ext HM.out HE1.out) ?_; intro w2 r1 hr0; have HLR := Lib.hid hr0; clear hr0; intro hrng hE2 hs2)
    | go_in)
  have HRN := Lib.hid hrng
  have HE2 := Lib.hid hE2
  clear hrng hE2 hs2
  go_simp
  go_loopw [] (fun wn => ∃ (done : List Key), RngG kK eI be r1 NE f done wn ∧ Ext w1 wn) (fun wn => wn.rangeLeft be r1)
  case atStart => exact ⟨[], HRN.out, HE2.out⟩
  case round =>
    rename World => wn
    obtain ⟨done, hR, hE⟩ := hrel
    have HR := Lib.hid hR
    have HE := Lib.hid hE
    clear hR hE
    go_wp2_with (first
      | (at_next; refine wpList_next_G wn rfl _ rfl rfl HR.out ?_ ?_)
      | go_in)
    · intro hall
      have HEN := Lib.hid (ext_trans HE1.out HE.out)
      have hlen : ∀ ty, (Builtin.len_ #[95] ty #[.map (some be)]).run Try.prog wn = .ok (.int .i64 (NE : Int)) wn := fun ty => len_G Try.underlying95 (rngG_map HR.out)
      have hle : ¬ (10000 : Int) < (NE : Int) := by omega
      have HZN := Lib.hid (foZ_ext HZ1.out HE.out)
      have HS1 := Lib.hid (show w1.heap.size ≤ wn.heap.size from ext_size HE.out)
      clear hall HR HE HRN HE2 HLR
      go_wp2_with (first
        | (at_range; refine wpList_range_G _ rfl _ _ rfl Try.underlying95 rfl (mapG_ext HM.out HEN.out) ?_; intro w3 r2 hr0; have HLR := Lib.hid hr0; clear hr0; intro hrng hE3 hs3)
        | go_in)
      have HRN := Lib.hid hrng
      have HE3 := Lib.hid (ext_trans HEN.out hE3)
      have HZ3 := Lib.hid (foZ_ext HZN.out hE3)
      have HSZ := Lib.hid (show w1.heap.size ≤ r2 ∧ r2 < w3.heap.size from ⟨by rw [HLR.out]; exact HS1.out, by rw [HLR.out]; omega⟩)
      clear hrng hE3 hs3 hlen hle
      go_simp
      go_loopw [] (fun wm => ∃ (done : List Key) (F : Nat → Prop), RngG kK eI be r2 NE f done wm ∧ FoZ t 10000 minI (grOf (doneL f done)) L F G wm ∧ (∀ b, F b → w.heap.size ≤ b ∧ b ≠ r2 ∧ b < wm.heap.size) ∧ (∀ k ∈ done, (f k).isSome = true) ∧ r2 < wm.heap.size ∧ Ext w wm) (fun wm => wm.rangeLeft be r2)
      case atStart => exact ⟨[], G, HRN.out, by rw [HG.out]; rw [HG.out] at HZ3; exact HZ3.out, fun b hb => by
        rw [HG.out] at hb
        have h1 := HS0.out
        have h2 := HSZ.out
        omega, fun k hk => (by cases hk), HSZ.out.2, HE3.out⟩
      case round =>
        rename World => wm
        obtain ⟨done, F, hR, hZ, hF, hs, hr2, hE⟩ := hrel
        have HR := Lib.hid hR
        have HZ := Lib.hid hZ
        have HF := Lib.hid hF
        have HDS := Lib.hid hs
        have HR2 := Lib.hid hr2
        have HE := Lib.hid hE
        clear hR hZ hF hs hr2 hE
        go_wp2_with (first
          | (at_next; refine wpList_next_G wm rfl _ rfl rfl HR.out ?_ ?_)
          | go_in)
        · intro hall
          have hdl : (doneL f done).length ≤ 80 := by
            unfold doneL
            rw [List.length_map]
            have := nodupK_le (rngG_nodup HR.out) (M := ks) (fun k hk => (HC.out.mem k).2 (HDS.out k hk))
            rw [← HN.out] at this
            omega
          have HP := Lib.hid (pairs_z HZ.out (doneL_nd (rngG_nodup HR.out)) (by omega))
          have HGR := Lib.hid (doneL_all (rngG_nodup HR.out) HDS.out hall)
          clear hall hdl
          go_wp2_with fail
          refine HP.out.mono ?_
          rintro e w9 ⟨qb, NQ, p, rfl, hQ, hP, -, hE9⟩
          rw [HGR.out] at hP
          have HFIN := Lib.hid (show OfTo t f w (.returned (.tuple #[.map (some qb), .int .i64 0])) w9 from ⟨qb, NQ, p, rfl, hQ, hP, ext_trans HE.out hE9⟩)
          clear hQ hP hE9
          go_wp2
          go_ret2
          exact HFIN.out
        · intro k u w4 hfx hnx hR4 hlt4 hg4 hs4 hent
          rw [show kK.val k = .agg #[.int .i64 k.a, .int .i64 k.b, .int .i64 k.c] from rfl, show eI.val u = .int .i64 u from rfl] at hent ⊢
          have hok := mapG_out (rngG_map HR.out) hfx
          have hrt := HRT.out k u hfx
          obtain ⟨ka, kb, kc⟩ := k
          have hU4 := upd_grown hg4
          obtain ⟨wa, hwa⟩ : ∃ x', x' = w4.alloc (.cells #[.int .i64 ka, .int .i64 kb, .int .i64 kc] 85) := ⟨_, rfl⟩
          have hEa : Ext w4 wa := by rw [hwa]; exact ext_alloc (ext_refl _) _
          have hUr : Upd (fun b => b = r2) wm wa := upd_trans (upd_mono hU4 (fun i _ e => (Option.some.inj e).symm)) (upd_of_ext (fp := fun _ => False) hEa) (fun _ _ h => h.elim)
          have hza := foZ_upd HZ.out hUr (fun b hb e => by
            have e' : b = r2 := e
            rcases hb with hb | hb
            · exact (HF.out b hb).2.1 e'
            · rw [HG.out] at hb
              have := HSZ.out.1
              omega)
          have hdl : (doneL f done).length ≤ 80 := by
            unfold doneL
            rw [List.length_map]
            have := nodupK_le (rngG_nodup HR.out) (M := ks) (fun k hk => (HC.out.mem k).2 (HDS.out k hk))
            rw [← HN.out] at this
            omega
          have hadd := add_z (k := ⟨ka, kb, kc⟩) (u := u) hza (doneL_nd (rngG_nodup HR.out)) (by omega) (by omega) hok.1 hok.2 hrt (by unfold minI; have := okI_iff.1 hok.2; omega)
          rw [doneL_add hnx hfx] at hadd
          have hEw : Ext w wa := ext_of_upd (upd_trans (upd_of_ext HE.out) hUr (fun i hi e => absurd hi (by have e' : i = r2 := e; have h1 := HSZ.out.1; have h2 := ext_size HE1.out; omega)))
          have HADD := Lib.hid hadd
          have HRA := Lib.hid (rngG_ext hR4 hEa)
          have HLA := Lib.hid (show wa.rangeLeft be r2 < wm.rangeLeft be r2 by rw [left_ext hR4 hEa]; exact hlt4)
          have HEW := Lib.hid hEw
          have HSA := Lib.hid (show wm.heap.size ≤ wa.heap.size from hUr.size)
          have HFX := Lib.hid hfx
          have HWB := Lib.hid hwa
          clear hfx hnx hR4 hlt4 hg4 hs4 hok hrt hU4 hEa hUr hza hdl hadd hEw hwa
          go_wp2_with fail
          rw [← HWB.out]
          refine HADD.out.mono ?_
          rintro e w5 ⟨rfl, hZ5, hU5⟩
          have hs5 := hU5.size
          have hnF : ¬ F r2 := fun hf => (HF.out r2 hf).2.1 rfl
          have hnb : ¬ F be := fun hf => by
            have h1 := (HF.out be hf).1
            have h2 := mapG_lt HM.out
            omega
          have HR5 := Lib.hid (rngG_upd HRA.out hU5 hnb hnF)
          have HL5 := Lib.hid (show w5.rangeLeft be r2 < wm.rangeLeft be r2 by rw [left_upd HRA.out hU5 hnb hnF]; exact HLA.out)
          have HZ5 := Lib.hid hZ5
          have HE5 := Lib.hid (show Ext w w5 from ext_of_upd (upd_trans (upd_of_ext HEW.out) hU5 (fun i hi hf => absurd hi (by have := (HF.out i hf).1; omega))))
          have HF5 := Lib.hid (show ∀ b, (F b ∨ wa.heap.size ≤ b ∧ b < w5.heap.size) → w.heap.size ≤ b ∧ b ≠ r2 ∧ b < w5.heap.size from fun b hb => by
            have h1 := HSA.out
            have h2 := HR2.out
            have h3 := ext_size HEW.out
            rcases hb with hb | hb
            · obtain ⟨h4, h5, h6⟩ := HF.out b hb
              exact ⟨h4, h5, by omega⟩
            · exact ⟨by omega, by omega, hb.2⟩)
          have HD5 := Lib.hid (show ∀ k ∈ done ++ [⟨ka, kb, kc⟩], (f k).isSome = true from fun k hk => by
            rcases List.mem_append.1 hk with h1 | h1
            · exact HDS.out k h1
            · rw [List.mem_singleton.1 h1, HFX.out]; rfl)
          have HS5 := Lib.hid (show r2 < w5.heap.size by have h1 := HSA.out; have h2 := HR2.out; omega)
          clear hZ5 hU5 hs5 hnF hnb
          go_wp2
          go_roundw
          case rel => exact ⟨_, _, HR5.out, HZ5.out, HF5.out, HD5.out, HS5.out, HE5.out⟩
          case measure => exact HL5.out
    · intro k u w4 hfx hnx hR4 hlt4 hg4 hs4 hent
      rw [show kK.val k = .agg #[.int .i64 k.a, .int .i64 k.b, .int .i64 k.c] from rfl, show eI.val u = .int .i64 u from rfl] at hent ⊢
      have hrt := HRT.out k u hfx
      obtain ⟨ka, kb, kc⟩ := k
      have hU4 := upd_grown hg4
      obtain ⟨wa, hwa⟩ : ∃ x', x' = w4.alloc (.cells #[.int .i64 ka, .int .i64 kb, .int .i64 kc] 85) := ⟨_, rfl⟩
      have hEa : Ext w4 wa := by rw [hwa]; exact ext_alloc (ext_refl _) _
      have hEw : Ext w1 wa := ext_trans (ext_of_upd (upd_trans (upd_of_ext HE.out) hU4 (fun i hi e => absurd hi (by have e' : r1 = i := Option.some.inj e; have h1 := HLR.out; omega)))) hEa
      have HRA := Lib.hid (rngG_ext hR4 hEa)
      have HLA := Lib.hid (show wa.rangeLeft be r1 < wn.rangeLeft be r1 by rw [left_ext hR4 hEa]; exact hlt4)
      have HEW := Lib.hid hEw
      have HRIGHT := Lib.hid (right_any ⟨ka, kb, kc⟩ u wa)
      rw [hrt] at HRIGHT
      have HWB := Lib.hid hwa
      clear hfx hnx hR4 hlt4 hg4 hs4 hrt hU4 hEa hEw hwa
      go_wp2_with fail
      rw [← HWB.out]
      refine HRIGHT.out.mono ?_
      rintro e w5 ⟨rfl, hE5⟩
      have HR5 := Lib.hid (rngG_ext HRA.out hE5)
      have HL5 := Lib.hid (show w5.rangeLeft be r1 < wn.rangeLeft be r1 by rw [left_ext HRA.out hE5]; exact HLA.out)
      have HE5 := Lib.hid (ext_trans HEW.out hE5)
      clear hE5
      go_wp2
      go_roundw
      case rel => exact ⟨_, HR5.out, HE5.out⟩
      case measure => exact HL5.out
end Go.Proofs.Ytiabmdboacpmcaa
/- Plain: in whatever order edges come, the same are there. -/
namespace Go.Proofs.Ytiabmdboacpmcaa
open Go

theorem edsL_snoc (L : List AR) (x : AR) : edsL (L ++ [x]) = addL (edsL L) (absK x.key) (untZ x.till) := by
  unfold edsL
  rw [List.foldl_append]
  rfl
theorem grOf_add_iff (E : List Ed) (k : Key) (u : Int) (k' : Key) (v : Int) : grOf (addL E k u) k' = some v ↔ if k' = k then (v = u ∨ grOf E k = some v) ∧ u ≤ v ∧ (∀ z, grOf E k = some z → z ≤ v) else grOf E k' = some v := by
  rw [grOf_add]
  by_cases e : k' = k
  · subst e
    rw [if_pos rfl]
    cases h : grOf E k' with
    | none =>
      simp only [setG_same]
      constructor
      · intro h1; cases h1; exact ⟨.inl rfl, Int.le_refl _, fun z hz => by cases hz⟩
      · rintro ⟨h1 | h1, _⟩
        · rw [h1]
        · cases h1
    | some z =>
      simp only
      by_cases hz : z < u
      · rw [if_pos hz, setG_same]
        constructor
        · intro h1; cases h1; exact ⟨.inl rfl, Int.le_refl _, fun z' hz' => by cases hz'; omega⟩
        · rintro ⟨h1 | h1, h2, h3⟩
          · rw [h1]
          · cases h1; omega
      · rw [if_neg hz, h]
        constructor
        · intro h1; cases h1; exact ⟨.inr rfl, by omega, fun z' hz' => by cases hz'; exact Int.le_refl _⟩
        · rintro ⟨h1 | h1, h2, h3⟩
          · have := h3 z rfl
            congr 1
            omega
          · exact h1
  · rw [if_neg e]
    cases h : grOf E k with
    | none => simp only [setG_other e]
    | some z =>
      simp only
      split
      · rw [setG_other e]
      · exact Iff.rfl
theorem edsL_iff (L : List AR) : ∀ (k : Key) (u : Int), grOf (edsL L) k = some u ↔ (∃ x ∈ L, absK x.key = k ∧ untZ x.till = u) ∧ ∀ x ∈ L, absK x.key = k → untZ x.till ≤ u := by
  obtain ⟨n, hn⟩ : ∃ n, n = L.length := ⟨_, rfl⟩
  induction n generalizing L with
  | zero =>
    intro k u
    have : L = [] := List.eq_nil_of_length_eq_zero hn.symm
    subst this
    simp [edsL, grOf_nil]
  | succ n ih =>
    intro k u
    obtain ⟨M, x, rfl⟩ : ∃ M x, L = M ++ [x] := by
      rcases List.eq_nil_or_concat L with h | ⟨M, x, h⟩
      · rw [h] at hn; simp at hn
      · exact ⟨M, x, by rw [h, List.concat_eq_append]⟩
    have hM := ih M (by simp at hn; exact hn)
    rw [edsL_snoc, grOf_add_iff]
    by_cases e : k = absK x.key
    · subst e
      rw [if_pos rfl]
      constructor
      · rintro ⟨h1, h2, h3⟩
        refine ⟨?_, fun y hy hk => ?_⟩
        · rcases h1 with h1 | h1
          · exact ⟨x, by simp, rfl, h1.symm⟩
          · obtain ⟨⟨y, hy, h4, h5⟩, _⟩ := (hM _ _).1 h1
            exact ⟨y, List.mem_append_left _ hy, h4, h5⟩
        · rcases List.mem_append.1 hy with h4 | h4
          · cases hg : grOf (edsL M) (absK x.key) with
            | none =>
              exfalso
              have hsome : ∃ z, grOf (edsL M) (absK x.key) = some z := by
                have hmem : absK x.key ∈ (edsL M).map (·.1) := by
                  have hgen : ∀ (L' : List AR) (E : List Ed), (∃ y ∈ L', absK y.key = absK x.key) ∨ absK x.key ∈ E.map (·.1) → absK x.key ∈ (L'.foldl (fun E x => addL E (absK x.key) (untZ x.till)) E).map (·.1) := by
                    intro L'
                    induction L' with
                    | nil =>
                      intro E h
                      rcases h with ⟨y, hy, _⟩ | h
                      · cases hy
                      · exact h
                    | cons z L' ih' =>
                      intro E h
                      rw [List.foldl_cons]
                      refine ih' _ ?_
                      rcases h with ⟨y, hy, hk'⟩ | h
                      · rcases List.mem_cons.1 hy with rfl | hy'
                        · right
                          rw [addL_keys, hk']
                          split
                          · assumption
                          · simp
                        · exact .inl ⟨y, hy', hk'⟩
                      · right
                        rw [addL_keys]
                        split
                        · exact h
                        · exact List.mem_append_left _ h
                  exact hgen M [] (.inl ⟨y, h4, hk⟩)
                exact Option.isSome_iff_exists.1 (grOf_isSome.2 hmem)
              obtain ⟨z, hz⟩ := hsome
              rw [hg] at hz
              cases hz
            | some z =>
              have h5 := ((hM _ _).1 hg).2 y h4 hk
              have h6 := h3 z hg
              omega
          · rw [List.mem_singleton.1 h4]; exact h2
      · rintro ⟨⟨y, hy, h1, h2⟩, h3⟩
        refine ⟨?_, h3 x (by simp) rfl, fun z hz => ?_⟩
        · rcases List.mem_append.1 hy with h4 | h4
          · right
            exact (hM _ _).2 ⟨⟨y, h4, h1, h2⟩, fun y' hy' hk => h3 y' (List.mem_append_left _ hy') hk⟩
          · left
            rw [List.mem_singleton.1 h4] at h2
            exact h2.symm
        · obtain ⟨⟨y', h4, h5, h6⟩, _⟩ := (hM _ _).1 hz
          rw [← h6]
          exact h3 y' (List.mem_append_left _ h4) h5
    · rw [if_neg e, hM]
      constructor
      · rintro ⟨⟨y, hy, h1, h2⟩, h3⟩
        refine ⟨⟨y, List.mem_append_left _ hy, h1, h2⟩, fun y' hy' hk => ?_⟩
        rcases List.mem_append.1 hy' with h4 | h4
        · exact h3 y' h4 hk
        · rw [List.mem_singleton.1 h4] at hk; exact absurd hk.symm e
      · rintro ⟨⟨y, hy, h1, h2⟩, h3⟩
        refine ⟨?_, fun y' hy' hk => h3 y' (List.mem_append_left _ hy') hk⟩
        rcases List.mem_append.1 hy with h4 | h4
        · exact ⟨y, h4, h1, h2⟩
        · rw [List.mem_singleton.1 h4] at h1; exact absurd h1.symm e
theorem edsL_same {L M : List AR} (h : ∀ x, x ∈ L ↔ x ∈ M) : grOf (edsL L) = grOf (edsL M) := by
  funext k
  refine Option.ext fun u => ?_
  rw [edsL_iff, edsL_iff]
  constructor
  · rintro ⟨⟨x, hx, h1⟩, h2⟩
    exact ⟨⟨x, (h x).1 hx, h1⟩, fun y hy => h2 y ((h y).2 hy)⟩
  · rintro ⟨⟨x, hx, h1⟩, h2⟩
    exact ⟨⟨x, (h x).2 hx, h1⟩, fun y hy => h2 y ((h y).1 hy)⟩
/-- begun elsewhere -/
def rotN (L : List AR) (s j : Nat) : List AR := (List.range j).filterMap fun i => L[(i + s) % L.length]?
theorem rotN_step {L : List AR} {s j : Nat} {x : AR} (h : L[(j + s) % L.length]? = some x) : rotN L s (j + 1) = rotN L s j ++ [x] := by
  unfold rotN
  rw [List.range_succ, List.filterMap_append]
  simp [h]
theorem rotN_len (L : List AR) (s j : Nat) : (rotN L s j).length ≤ j := by
  unfold rotN
  have := List.length_filterMap_le (fun i => L[(i + s) % L.length]?) (List.range j)
  rw [List.length_range] at this
  exact this
theorem rotN_mem {L : List AR} {s : Nat} (x : AR) : x ∈ rotN L s L.length ↔ x ∈ L := by
  unfold rotN
  rw [List.mem_filterMap]
  constructor
  · rintro ⟨i, _, h⟩
    exact List.mem_of_getElem? h
  · intro h
    obtain ⟨i, hi⟩ := List.getElem?_of_mem h
    have hl := (List.getElem?_eq_some_iff.1 hi).1
    have h1 : s % L.length < L.length := Nat.mod_lt _ (by omega)
    refine ⟨(i + (L.length - s % L.length)) % L.length, List.mem_range.2 (Nat.mod_lt _ (by omega)), ?_⟩
    have h2 : ((i + (L.length - s % L.length)) % L.length + s) % L.length = i := by
      rw [Nat.mod_add_mod, ← Nat.add_mod_mod, show i + (L.length - s % L.length) + s % L.length = i + L.length by omega, Nat.add_mod_right, Nat.mod_eq_of_lt hl]
    rw [h2]
    exact hi
theorem rot_gr (L : List AR) (s : Nat) : grOf (edsL (rotN L s L.length)) = grOf (edsL L) := edsL_same (fun x => rotN_mem x)
end Go.Proofs.Ytiabmdboacpmcaa
/- ReachOrders. -/
namespace Go.Proofs.Ytiabmdboacpmcaa
open Go Go.RowKit Go.Sort Go.WideMaps Go.Maps
set_option maxHeartbeats 4000000

def Xs (bm : Nat) (ve : Value) : Nat → Prop := fun q => q = bm ∨ ve.ownBlock = some q
set_option maxRecDepth 100000 in
theorem orders_law (v va : Value) (L : List Nd) (LA : List AR) (x0 x1 : Nat) (w : World) (hv : RdNd w v L) (ha : RdAR w va LA) (h0 : x0 ≤ 255) (h1 : x1 ≤ 255) : Calls Try.prog 16 #[v, va, .agg #[.int .u8 (x0 : Int), .int .u8 (x1 : Int)]] w fun e w' => e = .returned (.bool true) ∧ Ext w w' := by
  have HV := Lib.hid hv
  have HA := Lib.hid ha
  obtain ⟨A1, c1, rfl, hok1, -⟩ := ha
  have HOK := Lib.hid hok1
  obtain ⟨na, hna⟩ : ∃ n, n = LA.length := ⟨_, rfl⟩
  rw [← hna] at HA ⊢
  have HN := Lib.hid hna
  clear hv hna hok1
  obtain ⟨b5, hb5⟩ : ∃ b, b = w.heap.size := ⟨_, rfl⟩
  have hE5 := ext_alloc (ext_refl w) (.cells #[.int .u8 (x0 : Int), .int .u8 (x1 : Int)] 94)
  have hX5 := heap_alloc_new w (.cells #[.int .u8 (x0 : Int), .int .u8 (x1 : Int)] 94)
  rw [← hb5] at hX5
  have HX50 := Lib.hid hX5
  have HE50 := Lib.hid hE5
  have HB50 := Lib.hid hb5
  clear hE5 hX5 hb5
  go_enter Try.func16, Try.ntmps16
  go_wp2_with fail
  refine (awake11_any _).mono ?_
  rintro e w1 ⟨rfl, hE1⟩
  rw [← HB50.out]
  have HX5 := Lib.hid ((ext_block hE1 (block_lt HX50.out)).trans HX50.out)
  have HE1 := Lib.hid (ext_trans HE50.out hE1)
  have HEX := Lib.hid hE1
  clear hE1
  by_cases hbna : (12 : Int) < (na : Int)
  · have hd12 : decide ((12 : Int) < (na : Int)) = true := decide_eq_true hbna
    go_wp2_with fail
    refine (awake11_any _).mono ?_
    rintro e w2 ⟨rfl, hE2⟩
    have HE2 := Lib.hid (ext_trans HE1.out hE2)
    clear hE2
    go_wp2
    refine bodyPost_ret (results_tmp rfl _ _ _) rfl ?_
    exact ⟨rfl, HE2.out⟩
  have hd12 : decide ((12 : Int) < (na : Int)) = false := decide_eq_false hbna
  by_cases hz0 : (na : Int) = 0
  · have hz0b : ((na : Int) == 0) = true := by simpa using hz0
    go_wp2_with fail
    refine (awake11_any _).mono ?_
    rintro e w2 ⟨rfl, hE2⟩
    have HE2 := Lib.hid (ext_trans HE1.out hE2)
    clear hE2
    go_wp2
    refine bodyPost_ret (results_tmp rfl _ _ _) rfl ?_
    exact ⟨rfl, HE2.out⟩
  have hz0b : ((na : Int) == 0) = false := by simpa using hz0
  go_wp2_with fail
  refine (fix_any v L _ (rdNd_ext HV.out HE1.out)).mono ?_
  rintro e w2 ⟨L', v', rfl, hr, hF, hl, hE2⟩
  have HR := Lib.hid hr
  have HF := Lib.hid hF
  have HE2 := Lib.hid (ext_trans HE1.out hE2)
  have HX2E := Lib.hid hE2
  have hl8 : L'.length ≤ 8 := by omega
  clear hr hF hE2 hl
  go_wp2_with fail
  refine (tree_fix 8 (by decide) (by decide) v' L' _ HR.out HF.out hl8).mono ?_
  rintro e w3 ⟨rb, n, t, k, z, A, q, c, rfl, hn, hfit, hlst, hpv, hE3⟩
  obtain ⟨hfb, hch, -⟩ := fit_chk hfit (by decide)
  have hsz : sizeT t ≤ 300 := by have := hfit.2.1; omega
  have HLS := Lib.hid hlst
  have HPV := Lib.hid hpv
  have HE3 := Lib.hid (ext_trans HE2.out hE3)
  have HX3E := Lib.hid (ext_trans HX2E.out hE3)
  clear hfit hlst hpv hE3 hfb hl8
  go_wp2_with fail
  have hE4 := ext_alloc (ext_refl w3) (.cells #[.int .i64 k, .int .i64 z, .slice A q c] 30)
  have hB4 := heap_alloc_new w3 (.cells #[.int .i64 k, .int .i64 z, .slice A q c] 30)
  obtain ⟨w4, hw4⟩ : ∃ w4, w4 = w3.alloc (.cells #[.int .i64 k, .int .i64 z, .slice A q c] 30) := ⟨_, rfl⟩
  obtain ⟨p6, hp6⟩ : ∃ p6, p6 = w3.heap.size := ⟨_, rfl⟩
  rw [← hw4] at hE4 hB4 ⊢
  rw [← hp6] at hB4 ⊢
  have HB4 := Lib.hid hB4
  have HE4 := Lib.hid (ext_trans HE3.out hE4)
  have HX4E := Lib.hid (ext_trans HX3E.out hE4)
  have HL4 := Lib.hid (lst_ext HLS.out hE4)
  have HP4 := Lib.hid (PV_ext HPV.out hE4)
  clear hw4 hp6 hE4 hB4 HLS HPV HE3
  refine (rcheck_any t rb n 0 _ (by omega) hn HL4.out).mono ?_
  rintro e w5 ⟨rfl, hE5⟩
  have h45 := (ext_block hE5 (block_lt HB4.out)).trans HB4.out
  have HP5 := Lib.hid (PV_ext HP4.out hE5)
  have HB5 := Lib.hid h45
  have HE5 := Lib.hid (ext_trans HE4.out hE5)
  have HL5 := Lib.hid (lst_ext HL4.out hE5)
  have HXE5 := Lib.hid (ext_trans HX4E.out hE5)
  clear hE5 h45 HP4 HB4 HE4
  by_cases hz : chk t = 0
  · rw [hz]
    have HZ := Lib.hid hz
    have HFS := Lib.hid (chk_ok hz)
    have hna : LA.length ≤ 12 := by rw [← HN.out]; omega
    have b0 := block_cell HB5.out 0
    have b1 := block_cell HB5.out 1
    have b2 := block_cell HB5.out 2
    have bl := block_lt HB5.out
    have HX55 := Lib.hid ((ext_block HXE5.out (block_lt HX5.out)).trans HX5.out)
    clear hz hch
    go_wp2_with fail
    refine (new_z t _ 100 w5 HP5.out HZ.out (by omega)).mono ?_
    rintro e w6 ⟨La, rfl, hZa, hE6⟩
    have HZA := Lib.hid hZa
    have HE6 := Lib.hid hE6
    have hb6 := (ext_block hE6 (block_lt HB5.out)).trans HB5.out
    clear b0 b1 b2 bl hZa hE6
    have b0 := block_cell hb6 0
    have b1 := block_cell hb6 1
    have b2 := block_cell hb6 2
    have bl := block_lt hb6
    clear hb6
    go_wp2_with fail
    refine (new_z t _ 100 w6 (PV_ext HP5.out HE6.out) HZ.out (by omega)).mono ?_
    rintro e w7 ⟨Lb, rfl, hZb, hE7⟩
    obtain ⟨H, hH⟩ : ∃ H, H = w5.heap.size := ⟨_, rfl⟩
    have HTW7 := Lib.hid (two_new (X := fun _ => False) (Nat.le_of_eq hH) HE6.out hE7 HZA.out hZb (fun q hq => hq.elim))
    have HE7 := Lib.hid (ext_trans HE6.out hE7)
    have HH := Lib.hid hH
    clear hZb hE7 b0 b1 b2 bl
    obtain ⟨bm, hbm⟩ : ∃ b, b = w7.heap.size := ⟨_, rfl⟩
    obtain ⟨w8, hw8⟩ : ∃ w8, w8 = w7.alloc (.map #[] 0) := ⟨_, rfl⟩
    have hE8 : Ext w7 w8 := by rw [hw8]; exact ext_alloc (ext_refl _) _
    have HM8 := Lib.hid (show MapE bm 0 (fun _ => none) w8 from by rw [hw8, hbm]; exact mapG_made kK eI w7)
    have HTW8 := Lib.hid (twoF_ext (X' := Xs bm (.slice none 0 0)) HTW7.out hE8 (fun q hq => by
      rcases hq with rfl | hq
      · exact ⟨.inr (by rw [hbm]; exact Nat.le_refl _), mapG_lt HM8.out⟩
      · cases hq))
    have HE8 := Lib.hid (ext_trans HE7.out hE8)
    have HW8 := Lib.hid (And.intro hw8 hbm)
    have hmm := @run_makeMap Try.prog
    clear hE8 hw8 hbm hH
    go_wp2
    rw [← HW8.out.1, ← HW8.out.2]
    go_loopw [13, 58] (fun y x wr => ∃ (i : Nat) (ve : Value), i ≤ na ∧ x = .int .i64 (i : Int) ∧ ve = y ∧ TwoF t minI minI (edsL (LA.take i)) (edsL (rotN LA x0 i)) H La Lb (Xs bm ve) wr ∧ rowF elDr H (edsL (LA.take i)) ve wr ∧ MapE bm 0 (fun _ => none) wr ∧ Ext w5 wr) (fun _ x _ => na - (intOf x).toNat)
    case atStart => exact ⟨0, _, by omega, rfl, rfl, HTW8.out, rowF_nil _ _, HM8.out, HE8.out⟩
    case round =>
      rename World => wr
      obtain ⟨i, ve, hi, rfl, rfl, hT, hR, hM, hE⟩ := hrel
      have HTW := Lib.hid hT
      have HRV := Lib.hid hR
      have HMP := Lib.hid hM
      have HER := Lib.hid hE
      clear hT hR hM hE
      by_cases hlt : i < na
      · have hii : (i : Int) < (na : Int) := by omega
        have hi0 : (0 : Int) ≤ (i : Int) := by omega
        have hn0 : (0 : Int) < (na : Int) := by omega
        obtain ⟨A', c', hv', _, hrd⟩ := rdAR_ext HA.out (ext_trans HE5.out HER.out)
        simp only [Value.slice.injEq] at hv'
        obtain ⟨rfl, -, rfl⟩ := hv'
        obtain ⟨x, hx⟩ : ∃ x, LA[i]? = some x := ⟨_, List.getElem?_eq_getElem (by rw [← HN.out]; exact hlt)⟩
        obtain ⟨g, off, rfl, lg, hc⟩ := hrd (fun e => by rw [e] at hx; simp at hx)
        obtain ⟨iq, hiq⟩ : ∃ q, q = (i + x0) % na := ⟨_, rfl⟩
        have hiql : iq < na := by rw [hiq]; exact Nat.mod_lt _ (by omega)
        obtain ⟨y, hy⟩ : ∃ x, LA[iq]? = some x := ⟨_, List.getElem?_eq_getElem (by rw [← HN.out]; exact hiql)⟩
        obtain ⟨c0', c1', c2', c3', c4'⟩ := hc i x hx
        have HDY := Lib.hid (hc iq y hy)
        have HLG := Lib.hid lg
        have HXX := Lib.hid (edsL_take hx)
        have HYY := Lib.hid (show edsL (rotN LA x0 (i + 1)) = addL (edsL (rotN LA x0 i)) (absK y.key) (untZ y.till) from by
          rw [rotN_step (x := y) (by rw [← HN.out, ← hiq]; exact hy), edsL_snoc])
        have hmod : IntKind.i64.wrap (((i : Int) + (x0 : Int)).tmod (na : Int)) = (iq : Int) := by
          rw [show ((i : Int) + (x0 : Int)) = ((i + x0 : Nat) : Int) by push_cast; rfl, Int.tmod_eq_emod_of_nonneg (by omega), show ((i + x0 : Nat) : Int) % (na : Int) = (((i + x0) % na : Nat) : Int) from by push_cast; rfl, ← hiq]
          exact IntWalk.i64_in _ (by omega)
        have hadd : IntKind.i64.wrap ((i : Int) + (x0 : Int)) = (i : Int) + (x0 : Int) := IntWalk.i64_in _ (by omega)
        have HMOD := Lib.hid (And.intro hmod hadd)
        have HIQ := Lib.hid hiql
        have HIQE := Lib.hid hiq
        have HB5R := Lib.hid ((ext_block HER.out (block_lt HX55.out)).trans HX55.out)
        clear hc hx hy hrd hiq hmod hadd hiql
        have hgc := cell_grown
        have hb3 := fun (a b c : Int) (w : World) => run_build (P := Try.prog) w 73 #[(0, .int .i64 a), (1, .int .i64 b), (2, .int .i64 c)] #[.int .i64 a, .int .i64 b, .int .i64 c] (by kernel_rfl)
        have hba := fun (a b c u : Int) (w : World) => run_build (P := Try.prog) w 82 #[(1, .agg #[.int .i64 a, .int .i64 b, .int .i64 c]), (2, .int .i64 u)] #[.int .u8 0, .int .i64 a, .int .i64 b, .int .i64 c, .int .i64 u] (by kernel_rfl)
        go_wp2
        refine wp_region_mix [] [0, 1, 2, 3, 4, 5, 6, 7, 8, 9, 10, 11, 12, 13, 14, 15, 16, 17, 18, 19, 20, 21, 22, 23, 24, 25, 26, 27, 28] [29] [30] (by kernel_rfl) (by kernel_rfl) (fun _ _ d _ _ h => by cases d <;> exact h) ?_
        refine wpPre_nil ?_
        repeat (refine wpLoose_step rfl (fun K hK => ?_); (try simp only [Oper.quietAt, Oper.quietUpon]); go_simp; first | (refine hK _ ?_; clear hK K) | (apply Exists.intro; refine ⟨fun p => ?_, hK _ ?_⟩; (go_at_call 43; refine (abs_any _ _).mono ?_; rintro e w' ⟨rfl, hw'⟩; exact ⟨rfl, by rw [hw']; exact ext_refl _⟩); clear hK K))
        refine wpLoose_nil ?_
        refine wpFresh_step (fun p => .pointer (some ⟨p, 0, none⟩)) (.cells #[.int .u8 0, .int .i64 0, .int .i64 0, .int .i64 0, .int .i64 0] 82) rfl rfl (fun _ => by go_simp) (fun p16 hp16 _ => ?_)
        refine wpFresh_nil (fun w9 hE9 hS9 => ?_)
        obtain ⟨-, hs9⟩ := hS9
        obtain ⟨w10, hw10⟩ : ∃ w10, w10 = w9.setCells p16 0 (#[.int .u8 0, .int .i64 (absZ x.key.a), .int .i64 (absZ x.key.b), .int .i64 (absZ x.key.c), .int .i64 (untZ x.till)] : Array Value).toList := ⟨_, rfl⟩
        have hU : Upd (fun b => b = p16) w9 w10 := by
          rw [hw10]
          exact upd_trans (upd_trans (upd_trans (upd_trans (upd_setCell (a := ⟨p16, 0, none⟩) _) (upd_setCell (a := ⟨p16, 1, none⟩) _) (fun _ _ h => h)) (upd_setCell (a := ⟨p16, 2, none⟩) _) (fun _ _ h => h)) (upd_setCell (a := ⟨p16, 3, none⟩) _) (fun _ _ h => h)) (upd_setCell (a := ⟨p16, 4, none⟩) _) (fun _ _ h => h)
        have hb16 : w10.heap[p16]? = some (.cells #[.int .u8 0, .int .i64 (absZ x.key.a), .int .i64 (absZ x.key.b), .int .i64 (absZ x.key.c), .int .i64 (untZ x.till)] 82 (0, 0)) := by
          rw [hw10]
          exact heap_setCell_at (j := 4) (heap_setCell_at (j := 3) (heap_setCell_at (j := 2) (heap_setCell_at (j := 1) (heap_setCell_at (j := 0) hs9))))
        have HTH := Lib.hid (show w9.there p16 0 (#[.int .u8 0, .int .i64 (absZ x.key.a), .int .i64 (absZ x.key.b), .int .i64 (absZ x.key.c), .int .i64 (untZ x.till)] : Array Value).size from fun j hj => by
          have hj' : j < 5 := hj
          rw [Nat.zero_add]
          refine ⟨?_, block_frozen hs9 j⟩
          rw [block_cell hs9 j]
          rcases (by omega : j = 0 ∨ j = 1 ∨ j = 2 ∨ j = 3 ∨ j = 4) with rfl | rfl | rfl | rfl | rfl <;> rfl)
        have hE10 : Ext wr w10 := ext_of_upd (upd_trans (upd_of_ext hE9) hU (fun b hb e => absurd hb (by have e' : b = p16 := e; omega)))
        have HB16 := Lib.hid hb16
        have HE10 := Lib.hid hE10
        have HP16 := Lib.hid hp16
        have HW10 := Lib.hid hw10
        have hx5 := (ext_block hE10 (block_lt HB5R.out)).trans HB5R.out
        have q50 := block_cell hx5 0
        have l5 := block_lt hx5
        obtain ⟨d0, d1, d2, d3, d4⟩ := HDY.out
        have d0 := (ext_cell hE10 _ _ HLG.out).trans d0
        have d1 := (ext_cell hE10 _ _ HLG.out).trans d1
        have d2 := (ext_cell hE10 _ _ HLG.out).trans d2
        have d3 := (ext_cell hE10 _ _ HLG.out).trans d3
        have d4 := (ext_cell hE10 _ _ HLG.out).trans d4
        have lg := ext_lt hE10 HLG.out
        have hEA : Ext w10 (w10.alloc (.cells #[.int .u8 y.kind, .int .i64 y.key.a, .int .i64 y.key.b, .int .i64 y.key.c, .int .i64 y.till] 82)) := ext_alloc (ext_refl _) _
        have hm1 := (ext_block hEA (block_lt hb16)).trans hb16
        have m1 := block_cell hm1 1
        have m2 := block_cell hm1 2
        have m3 := block_cell hm1 3
        have m4 := block_cell hm1 4
        have ml := block_lt hm1
        have HM1 := Lib.hid hm1
        rw [HIQE.out] at d0 d1 d2 d3 d4
        have hiq1 : ((i : Int) + (x0 : Int)) % (na : Int) < (na : Int) := Int.emod_lt_of_pos _ (by omega)
        have hiq0 : (0 : Int) ≤ ((i : Int) + (x0 : Int)) % (na : Int) := Int.emod_nonneg _ (by omega)
        have hadd := HMOD.out.2
        clear hU hb16 hE10 hx5 hEA hm1 hE9 hp16 hs9 hb3 hba hgc c0' c1' c2' c3' c4' hw10
        refine wpSeq_of_list [30] [_] _ _ rfl ?_
        refine wpList_store_mid rfl 82 (.tmp 16) (.tmp 89) rfl p16 0 #[.int .u8 0, .int .i64 (absZ x.key.a), .int .i64 (absZ x.key.b), .int .i64 (absZ x.key.c), .int .i64 (untZ x.till)] rfl rfl HTH.out (by kernel_rfl) (by kernel_rfl) ?_
        rw [← HW10.out]
        go_simp
        go_wp2_with fail
        obtain ⟨w11, hw11⟩ : ∃ w11, w11 = (w10.alloc (.cells #[.int .u8 y.kind, .int .i64 y.key.a, .int .i64 y.key.b, .int .i64 y.key.c, .int .i64 y.till] 82)) := ⟨_, rfl⟩
        obtain ⟨p17, hp17⟩ : ∃ p, p = w10.heap.size := ⟨_, rfl⟩
        have hb17 : w11.heap[p17]? = some (.cells #[.int .u8 y.kind, .int .i64 y.key.a, .int .i64 y.key.b, .int .i64 y.key.c, .int .i64 y.till] 82 (0, 0)) := by rw [hw11, hp17]; exact heap_alloc_new _ _
        have hE11 : Ext wr w11 := by rw [hw11]; exact ext_trans HE10.out (ext_alloc (ext_refl _) _)
        have hb16 : w11.heap[p16]? = some (.cells #[.int .u8 0, .int .i64 (absZ x.key.a), .int .i64 (absZ x.key.b), .int .i64 (absZ x.key.c), .int .i64 (untZ x.till)] 82 (0, 0)) := by rw [hw11]; exact HM1.out
        have HTW11 := Lib.hid (twoF_ext (X' := fun q => Xs bm ve q ∨ q = p16 ∨ q = p17) HTW.out hE11 (fun q hq => by
          rcases hq with (rfl | hq) | rfl | rfl
          · exact ⟨.inl (.inl rfl), ext_lt hE11 (mapG_lt HMP.out)⟩
          · exact ⟨.inl (.inr hq), ext_lt hE11 (rowE_block HRV.out.1 hq).1⟩
          · exact ⟨.inr HP16.out, block_lt hb16⟩
          · exact ⟨.inr (by rw [hp17]; exact ext_size HE10.out), block_lt hb17⟩))
        have HB16' := Lib.hid hb16
        have HB17 := Lib.hid hb17
        have HE11 := Lib.hid hE11
        have HW11 := Lib.hid (And.intro hw11 hp17)
        rw [← hw11, ← hp17]
        clear hw11 hp17 hb17 hE11 hb16 HM1 HB16 m1 m2 m3 m4 ml d0 d1 d2 d3 d4 lg q50 l5 hadd hiq1 hiq0
        refine (add_two (k := absK x.key) (u := untZ x.till) HTW11.out (edsL_nd _) (Nat.le_trans (edsL_len _) (by rw [List.length_take]; omega)) (absK_ok _).1 (untZ_ok _) (absK_right _ _) (by unfold minI; have := untZ_le x.till; omega)).mono ?_
        rintro e w12 ⟨rfl, hT12, hU12⟩
        have hn16 : ¬ (H ≤ p16 ∧ ¬ (Xs bm ve p16 ∨ p16 = p16 ∨ p16 = p17)) := fun h => h.2 (.inr (.inl rfl))
        have hn17 : ¬ (H ≤ p17 ∧ ¬ (Xs bm ve p17 ∨ p17 = p16 ∨ p17 = p17)) := fun h => h.2 (.inr (.inr rfl))
        have HB16 := Lib.hid ((hU12.block p16 (block_lt HB16'.out) hn16).trans HB16'.out)
        have hb17 := (hU12.block p17 (block_lt HB17.out) hn17).trans HB17.out
        have HB17' := Lib.hid hb17
        have HTW12 := Lib.hid hT12
        have HU12 := Lib.hid (upd_trans (fp := fun q => H ≤ q ∧ ¬ (Xs bm ve q ∨ q = p16 ∨ q = p17)) (upd_of_ext HE11.out) hU12 (fun _ _ h => h))
        clear hT12 hU12 hn16 hn17 HB16' HB17
        have e0 := block_cell hb17 0
        have e1 := block_cell hb17 1
        have e2 := block_cell hb17 2
        have e3 := block_cell hb17 3
        have e4 := block_cell hb17 4
        have el := block_lt hb17
        have hgc := cell_grown
        have hb3 := fun (a b c : Int) (w : World) => run_build (P := Try.prog) w 85 #[(0, .int .i64 a), (1, .int .i64 b), (2, .int .i64 c)] #[.int .i64 a, .int .i64 b, .int .i64 c] (by kernel_rfl)
        clear hb17
        go_wp2
        refine wp_region_mix [] [0, 1, 2, 3, 4, 5, 6, 7, 8, 9, 10, 11, 12, 13, 14, 15, 16] [] [17] (by kernel_rfl) (by kernel_rfl) (fun _ _ d _ _ h => by cases d <;> exact h) ?_
        refine wpPre_nil ?_
        repeat (refine wpLoose_step rfl (fun K hK => ?_); (try simp only [Oper.quietAt, Oper.quietUpon]); go_simp; first | (refine hK _ ?_; clear hK K) | (apply Exists.intro; refine ⟨fun p => ?_, hK _ ?_⟩; (go_at_call 43; refine (abs_any _ _).mono ?_; rintro e w' ⟨rfl, hw'⟩; exact ⟨rfl, by rw [hw']; exact ext_refl _⟩); clear hK K))
        refine wpLoose_nil (wpFresh_nil (fun w13 hE13 _ => ?_))
        try simp only [List.drop_succ_cons, List.drop_zero]
        have HTW13 := Lib.hid (twoF_ext HTW12.out hE13 (fun q hq => ⟨.inl hq, by
          obtain ⟨Fa, Ga, Fb, Gb, h5⟩ := HTW12.out
          exact ext_lt hE13 (h5.low.2.2 q hq)⟩))
        have HE13 := Lib.hid hE13
        have HB163 := Lib.hid ((ext_block hE13 (block_lt HB16.out)).trans HB16.out)
        clear e0 e1 e2 e3 e4 el hgc hb3 hE13
        refine wpSeq_of_list [17] [_] _ _ rfl ?_
        go_simp
        go_wp2_with fail
        refine (add_two (k := absK y.key) (u := untZ y.till) (twoF_swap HTW13.out) (edsL_nd _) (Nat.le_trans (edsL_len _) (Nat.le_trans (rotN_len _ _ _) (by omega))) (absK_ok _).1 (untZ_ok _) (absK_right _ _) (by unfold minI; have := untZ_le y.till; omega)).mono ?_
        rintro e w14 ⟨rfl, hT14, hU14⟩
        have hn16 : ¬ (H ≤ p16 ∧ ¬ (Xs bm ve p16 ∨ p16 = p16 ∨ p16 = p17)) := fun h => h.2 (.inr (.inl rfl))
        have hb16 := (hU14.block p16 (block_lt HB163.out) hn16).trans HB163.out
        have hUall : Upd (fun q => H ≤ q ∧ ¬ (Xs bm ve q ∨ q = p16 ∨ q = p17)) wr w14 := upd_trans (upd_trans HU12.out (upd_of_ext (fp := fun _ => False) HE13.out) (fun _ _ h => h.elim)) hU14 (fun _ _ h => h)
        have HTW14 := Lib.hid (twoF_swap hT14)
        have HRV14 := Lib.hid (show rowF elDr H (edsL (LA.take i)) ve w14 from ⟨rowE_upd HRV.out.1 hUall (fun b hb h => h.2 (.inl (.inr hb))), HRV.out.2⟩)
        have HMP14 := Lib.hid (mapG_upd HMP.out hUall (fun h => h.2 (.inl (.inl rfl))))
        have HE14 := Lib.hid (show Ext w5 w14 from ext_of_upd (upd_trans (upd_of_ext HER.out) hUall (fun b hb h => absurd hb (by have h5 := HH.out; have h6 := h.1; omega))))
        have HH14 := Lib.hid (show H ≤ w14.heap.size from by rw [HH.out]; exact ext_size HE14.out)
        have s1 := block_cell hb16 1
        have s2 := block_cell hb16 2
        have s3 := block_cell hb16 3
        have s4 := block_cell hb16 4
        have sl := block_lt hb16
        clear hT14 hU14 hn16 hb16 hUall
        go_wp2_with fail
        refine (refadd_any ve (edsL (LA.take i)) (absK x.key) (untZ x.till) w14 HRV14.out.1 (Nat.le_trans (edsL_len _) (by rw [List.length_take]; omega))).mono ?_
        rintro e w15 ⟨v', rfl, hr15, hE15⟩
        have HTW15 := Lib.hid (show TwoF t minI minI (edsL (LA.take (i + 1))) (edsL (rotN LA x0 (i + 1))) H La Lb (Xs bm v') w15 from by
          rw [HXX.out, HYY.out]
          refine twoF_ext HTW14.out hE15 (fun q hq => ?_)
          rcases hq with rfl | hq
          · exact ⟨.inl (.inl (.inl rfl)), ext_lt hE15 (mapG_lt HMP14.out)⟩
          · exact ⟨.inr (hr15.2 q hq), (rowE_block hr15.1 hq).1⟩)
        have HR15 := Lib.hid (show rowF elDr H (edsL (LA.take (i + 1))) v' w15 from by rw [HXX.out]; exact rowF_low hr15 HH14.out)
        have HM15 := Lib.hid (mapG_ext HMP14.out hE15)
        have HE15 := Lib.hid (ext_trans HE14.out hE15)
        clear hr15 hE15 s1 s2 s3 s4 sl
        go_wp2
        go_roundw
        case rel => exact ⟨i + 1, v', by omega, by go_num, rfl, HTW15.out, HR15.out, HM15.out, HE15.out⟩
        case measure => simp [intOf]; omega
      · have hin : i = LA.length := by rw [← HN.out]; omega
        obtain ⟨EA, hEA⟩ : ∃ E, E = edsL LA := ⟨_, rfl⟩
        obtain ⟨EB, hEB⟩ : ∃ E, E = edsL (rotN LA x0 LA.length) := ⟨_, rfl⟩
        have HGR := Lib.hid (show grOf EB = grOf EA from by rw [hEA, hEB]; exact rot_gr LA x0)
        have HNA := Lib.hid (show KeysNd EA by rw [hEA]; exact edsL_nd _)
        have HNB := Lib.hid (show KeysNd EB by rw [hEB]; exact edsL_nd _)
        have HSA := Lib.hid (show ∀ e ∈ EA, smallE e by rw [hEA]; exact edsL_small _)
        have HSB := Lib.hid (show ∀ e ∈ EB, smallE e by rw [hEB]; exact edsL_small _)
        have HLA := Lib.hid (show EA.length ≤ 12 by rw [hEA]; exact Nat.le_trans (edsL_len _) hna)
        have HLB := Lib.hid (show EB.length ≤ 12 by rw [hEB]; exact Nat.le_trans (edsL_len _) (Nat.le_trans (rotN_len _ _ _) hna))
        have HT0 := Lib.hid (show TwoF t minI minI EA EB H La Lb (Xs bm ve) wr from by
          have h5 := HTW.out
          rw [hin, List.take_length, ← hEA, ← hEB] at h5
          exact h5)
        have HR0 := Lib.hid (show rowF elDr H EA ve wr from by
          have h5 := HRV.out
          rw [hin, List.take_length, ← hEA] at h5
          exact h5)
        have HTOPA := Lib.hid (show ∀ e ∈ EA, e.2 ≤ forever from fun e he => by have := (HSA.out e he).2.2.2.2.2.2.2; unfold forever; omega)
        have HTOPB := Lib.hid (show ∀ e ∈ EB, e.2 ≤ forever from fun e he => by have := (HSB.out e he).2.2.2.2.2.2.2; unfold forever; omega)
        have hnl : ¬ (i : Int) < (na : Int) := by rw [HN.out]; omega
        clear hin hEA hEB HTW HRV
        have hx5 := (ext_block HER.out (block_lt HX55.out)).trans HX55.out
        have q51 := block_cell hx5 1
        have l5 := block_lt hx5
        obtain ⟨bh, hbh⟩ : ∃ b, b = (x1 : Int) - 128 := ⟨_, rfl⟩
        have hsub : IntKind.i64.wrap ((x1 : Int) - 128) = bh := by rw [hbh]; exact IntWalk.i64_in _ (by omega)
        have HBH := Lib.hid (show max minI bh = bh from by unfold minI; omega)
        have hbh1 : -200 ≤ bh ∧ bh ≤ 200 := by omega
        clear hx5 hbh
        go_wp2_with fail
        refine (exp_two bh HT0.out HNA.out HTOPA.out (Nat.le_trans HLA.out (by omega))).mono ?_
        rintro e w9 ⟨⟨n9, rfl⟩, hT9, hU9⟩
        rw [HBH.out] at hT9
        have HT9 := Lib.hid (twoF_swap hT9)
        have HU9 := Lib.hid hU9
        clear hT9 hU9 q51 l5 hsub
        go_wp2_with fail
        refine (exp_two bh HT9.out HNB.out HTOPB.out (Nat.le_trans HLB.out (by omega))).mono ?_
        rintro e w10 ⟨⟨n10, rfl⟩, hT10, hU10⟩
        rw [HBH.out] at hT10
        have hUall : Upd (fun q => H ≤ q ∧ ¬ Xs bm ve q) wr w10 := upd_trans HU9.out hU10 (fun _ _ h => h)
        have HT10 := Lib.hid (twoF_swap hT10)
        have HR10 := Lib.hid (show rowE elDr w10 ve EA from rowE_upd HR0.out.1 hUall (fun b hb h => h.2 (.inr hb)))
        have HM10 := Lib.hid (mapG_upd HMP.out hUall (fun h => h.2 (.inl rfl)))
        have HE10 := Lib.hid (show Ext w5 w10 from ext_of_upd (upd_trans (upd_of_ext HER.out) hUall (fun b hb h => absurd hb (by have h5 := HH.out; have h6 := h.1; omega))))
        clear hT10 hU10 hUall
        go_wp2_with fail
        refine (refexp_any ve EA bh w10 HR10.out (Nat.le_trans HLA.out (by omega))).mono ?_
        rintro e w11 ⟨vl, rfl, hrl, hE11⟩
        obtain ⟨EL, hEL⟩ : ∃ E, E = expL EA bh := ⟨_, rfl⟩
        rw [← hEL] at hrl
        have HGL := Lib.hid (show grOf (expL EB bh) = grOf EL from by rw [hEL, grOf_exp HNA.out, grOf_exp HNB.out, HGR.out])
        have HT11 := Lib.hid (show TwoF t bh bh EL (expL EB bh) H La Lb (fun q => q = bm) w11 from by
          have h5 := HT10.out
          rw [← hEL] at h5
          exact twoF_ext h5 hE11 (fun q hq => by
            have e : q = bm := hq
            rw [e]
            exact ⟨.inl (.inl rfl), ext_lt hE11 (mapG_lt HM10.out)⟩))
        have HNL := Lib.hid (show KeysNd EL by rw [hEL]; exact expL_nd HNA.out)
        have HSL := Lib.hid (show ∀ e ∈ EL, smallE e from fun e he => HSA.out e (by rw [hEL] at he; exact (List.mem_filter.1 he).1))
        have HLL := Lib.hid (show EL.length ≤ 12 by rw [hEL]; exact Nat.le_trans (expL_len _ _) HLA.out)
        have HLLB := Lib.hid (show (expL EB bh).length ≤ 12 from Nat.le_trans (expL_len _ _) HLB.out)
        have HM11 := Lib.hid (mapG_ext HM10.out hE11)
        have HE11 := Lib.hid (ext_trans HE10.out hE11)
        obtain ⟨Al, cl, hvl⟩ := rowE_form hrl.1
        obtain ⟨nl, hnl'⟩ : ∃ n, n = EL.length := ⟨_, rfl⟩
        rw [← hnl'] at hvl
        have hnl12 : nl ≤ 12 := by rw [hnl']; exact HLL.out
        subst hvl
        have HRL := Lib.hid hrl.1
        have HNE := Lib.hid hnl'
        clear hrl hE11 hEL hnl' HR10 HM10 HT10
        go_wp2
        go_loopw [147] (fun y wn => ∃ j : Nat, j ≤ nl ∧ y = .int .i64 (j : Int) ∧ (∃ N, MapE bm N (grOf (EL.take j)) wn ∧ N ≤ j) ∧ TwoF t bh bh EL (expL EB bh) H La Lb (fun q => q = bm) wn ∧ rowE elDr wn (.slice Al nl cl) EL ∧ Ext w5 wn) (fun y _ => nl - (intOf y).toNat)
        case atStart => exact ⟨0, by omega, rfl, ⟨0, mapG_congr HM11.out (fun k => by rw [List.take_zero, grOf_nil]) rfl, Nat.le_refl _⟩, HT11.out, HRL.out, HE11.out⟩
        case round =>
          rename World => wn
          obtain ⟨j, hj, rfl, ⟨NM, hM, hNM⟩, hT, hR, hE⟩ := hrel
          have HMN := Lib.hid hM
          have HTN := Lib.hid hT
          have HRN := Lib.hid hR
          have HEN := Lib.hid hE
          clear hM hT hR hE
          by_cases hltj : j < nl
          · have hjj : (j : Int) < (nl : Int) := by omega
            have hj0 : (0 : Int) ≤ (j : Int) := by omega
            obtain ⟨ed, hed⟩ : ∃ x, EL[j]? = some x := ⟨_, List.getElem?_eq_getElem (by rw [← HNE.out]; exact hltj)⟩
            obtain ⟨ge, rfl, lge⟩ := rowE_some HRN.out (fun e => by rw [e] at hed; simp at hed)
            have e0 : wn.cell? ⟨ge, j * 4, none⟩ = some (.int .i64 ed.1.a) := rowE_cell HRN.out hed (j := 0) (u := .int .i64 ed.1.a) rfl
            have e1 : wn.cell? ⟨ge, j * 4 + 1, none⟩ = some (.int .i64 ed.1.b) := rowE_cell HRN.out hed (j := 1) (u := .int .i64 ed.1.b) rfl
            have e2 : wn.cell? ⟨ge, j * 4 + 2, none⟩ = some (.int .i64 ed.1.c) := rowE_cell HRN.out hed (j := 2) (u := .int .i64 ed.1.c) rfl
            have e3 : wn.cell? ⟨ge, j * 4 + 3, none⟩ = some (.int .i64 ed.2) := rowE_cell HRN.out hed (j := 3) (u := .int .i64 ed.2) rfl
            have hok := smallE_ok (HSL.out ed (List.mem_of_getElem? hed))
            have HTK := Lib.hid (show ∀ k, grOf (EL.take (j + 1)) k = if k = ed.1 then some ed.2 else grOf (EL.take j) k from fun k => by
              rw [List.take_add_one, hed, Option.toList_some]
              refine Option.ext fun u => ?_
              have hnd1 : KeysNd (EL.take j ++ [ed]) := by
                have h5 : EL.take (j + 1) = EL.take j ++ [ed] := by rw [List.take_add_one, hed, Option.toList_some]
                rw [← h5]
                exact List.Nodup.sublist ((List.take_sublist ..).map _) HNL.out
              have hnd0 : KeysNd (EL.take j) := List.Nodup.sublist ((List.take_sublist ..).map _) HNL.out
              rw [grOf_some hnd1]
              by_cases hk : k = ed.1
              · rw [if_pos hk, hk]
                constructor
                · intro h5
                  rcases List.mem_append.1 h5 with h6 | h6
                  · exfalso
                    unfold KeysNd at hnd1
                    rw [List.map_append, List.nodup_append] at hnd1
                    exact hnd1.2.2 ed.1 (List.mem_map.2 ⟨_, h6, rfl⟩) ed.1 (by simp) rfl
                  · rw [← List.mem_singleton.1 h6]
                · intro h5
                  cases h5
                  simp
              · rw [if_neg hk, grOf_some hnd0, List.mem_append, List.mem_singleton]
                constructor
                · rintro (h5 | h5)
                  · exact h5
                  · rw [← h5] at hk; exact absurd rfl hk
                · exact .inl)
            obtain ⟨⟨ka, kb, kc⟩, u⟩ := ed
            simp only at e0 e1 e2 e3 hok
            have HOKE := Lib.hid hok
            obtain ⟨W2, hW2⟩ : ∃ W2, W2 = wn.alloc (.cells #[.int .i64 ka, .int .i64 kb, .int .i64 kc, .int .i64 u] 75) := ⟨_, rfl⟩
            have hE2 : Ext wn W2 := by rw [hW2]; exact ext_alloc (ext_refl _) _
            have HE2' := Lib.hid hE2
            have HM2 := Lib.hid (mapG_ext HMN.out hE2)
            have HW2' := Lib.hid hW2
            clear hed hok hE2
            go_wp2_with (first
              | (at_mapUpdate; rw [← hW2]; refine wpList_store_G (K := kK) (E := eI) _ rfl (.tmp 151) (.tmp 153) (.tmp 155) 95 rfl Try.underlying95 rfl HM2.out (by unfold maxLen; omega) ⟨ka, kb, kc⟩ rfl HOKE.out.1 u rfl HOKE.out.2 (fun w12 hP12 hg12 => ?_))
              | go_in)
            have hU12 := upd_mono (upd_grown hg12) (fp' := fun b => b = bm) (fun i _ e => (Option.some.inj e).symm)
            have hne : ge ≠ bm := fun e => by
              obtain ⟨_, cur, h6⟩ := rowE_block HRN.out (g := ge) rfl
              exact mapG_off HMN.out h6 e
            have HM12 := Lib.hid (show ∃ N, MapE bm N (grOf (EL.take (j + 1))) w12 ∧ N ≤ j + 1 from ⟨_, mapG_congr hP12 (fun k => (HTK.out k).symm) rfl, by split <;> omega⟩)
            have HT12 := Lib.hid (twoF_upd (twoF_ext HTN.out HE2'.out (fun q hq => ⟨.inl hq, by have e : q = bm := hq; rw [e]; exact mapG_lt HM2.out⟩)) hU12 (fun _ h => h))
            have HR12 := Lib.hid (rowE_upd (rowE_ext HRN.out HE2'.out) hU12 (fun b hb e => hne (by have e' : b = bm := e; have h6 : ge = b := Option.some.inj hb; rw [h6, e'])))
            have HE12 := Lib.hid (show Ext w5 w12 from ext_of_upd (upd_trans (upd_of_ext (ext_trans HEN.out HE2'.out)) hU12 (fun b hb e => absurd hb (by have e' : b = bm := e; have h6 := HW8.out.2; have h7 := ext_size HE7.out; omega))))
            clear hP12 hg12 hU12 hne e0 e1 e2 e3 lge hW2
            go_wp2
            go_roundw
            case rel => exact ⟨j + 1, by omega, by go_num, HM12.out, HT12.out, HR12.out, HE12.out⟩
            case measure => simp [intOf]; omega
          · have hjl : EL.take j = EL := by rw [show j = nl by omega, HNE.out, List.take_length]
            have HMF := Lib.hid (show MapE bm NM (grOf EL) wn from by have h5 := HMN.out; rw [hjl] at h5; exact h5)
            have hnlj : ¬ (j : Int) < (nl : Int) := by omega
            have HOF := Lib.hid (of_any t _ (grOf EL) bm NM (EL.map (·.1)) wn (PV_ext HP5.out HEN.out) HZ.out HMF.out (card_of HNL.out) (by rw [List.length_map]; have := HLL.out; omega) (fun k u hk => by
              obtain ⟨s1, s2, s3, s4, s5, s6, s7, s8⟩ := HSL.out _ ((grOf_some HNL.out).1 hk)
              simp only at s1 s2 s3 s4 s5 s6 s7 s8
              rw [rightB_iff]
              unfold forever
              exact ⟨s1, s3, s5, by omega, by omega⟩))
            have hb6 := (ext_block HEN.out (block_lt HB5.out)).trans HB5.out
            have b0 := block_cell hb6 0
            have b1 := block_cell hb6 1
            have b2 := block_cell hb6 2
            have bl := block_lt hb6
            clear hjl hb6
            go_wp2_with fail
            refine HOF.out.mono ?_
            rintro e w12 ⟨qo, No, po, rfl, hQo, hPo, hE12⟩
            have HQO := Lib.hid hQo
            have HPO := Lib.hid hPo
            have HT12 := Lib.hid (twoF_ext HTN.out hE12 (fun q hq => ⟨.inl hq, by have e : q = bm := hq; rw [e]; exact ext_lt hE12 (mapG_lt HMF.out)⟩))
            have HR12 := Lib.hid (rowE_ext HRN.out hE12)
            have HE12 := Lib.hid (ext_trans HEN.out hE12)
            have HOKT := Lib.hid (show ∀ e ∈ EL, ok3 e.1 ∧ e.2 ≤ forever from fun e he => ⟨(smallE_ok (HSL.out e he)).1, by have := (HSL.out e he).2.2.2.2.2.2.2; unfold forever; omega⟩)
            have HTOLD := Lib.hid (fun (p : Prs) (qb NQ : Nat) (wt : World) (hEt : Ext w12 wt) (hq : MapQ qb NQ p wt) (hp : PrsOf (Words t) (grOf EL) p) => told_any t rb n EL _ p qb NQ wt hq hp (lst_ext HL5.out (ext_trans HE12.out hEt)) (rowE_ext HR12.out hEt) HNL.out HOKT.out (Nat.le_trans HLL.out (by omega)) HFS.out.1 (Nat.le_trans HFS.out.2 (by omega)) hn)
            clear hQo hPo hE12 b0 b1 b2 bl
            go_wp2_with fail
            refine (pairs_two HT12.out HNL.out (Nat.le_trans HLL.out (by omega))).mono ?_
            rintro e w13 ⟨qa, Na, pa, rfl, hQa, hPa, -, hE13⟩
            have HTA := Lib.hid (HTOLD.out pa qa Na w13 hE13 hQa hPa)
            have HE13 := Lib.hid hE13
            clear hQa hPa hE13
            go_wp2_with fail
            refine HTA.out.mono ?_
            rintro e w14 ⟨rfl, hE14⟩
            have HE14 := Lib.hid (ext_trans HE13.out hE14)
            have HT14 := Lib.hid (twoF_ext HT12.out HE14.out (fun q hq => ⟨.inl hq, by
              obtain ⟨Fa, Ga, Fb, Gb, h5⟩ := HT12.out
              exact ext_lt HE14.out (h5.low.2.2 q hq)⟩))
            clear hE14
            go_wp2_with fail
            refine (pairs_two (twoF_swap HT14.out) (expL_nd HNB.out) (Nat.le_trans HLLB.out (by omega))).mono ?_
            rintro e w15 ⟨qb', Nb, pb, rfl, hQb, hPb, -, hE15⟩
            rw [HGL.out] at hPb
            have HTB := Lib.hid (HTOLD.out pb qb' Nb w15 (ext_trans HE14.out hE15) hQb hPb)
            have HE15 := Lib.hid (ext_trans HE14.out hE15)
            clear hQb hPb hE15
            go_wp2_with fail
            refine HTB.out.mono ?_
            rintro e w16 ⟨rfl, hE16⟩
            have HE16 := Lib.hid (ext_trans HE15.out hE16)
            have HTO := Lib.hid (HTOLD.out po qo No w16 HE16.out (mapG_ext HQO.out HE16.out) HPO.out)
            clear hE16
            go_wp2_with fail
            refine HTO.out.mono ?_
            rintro e w17 ⟨rfl, hE17⟩
            have HFIN := Lib.hid (ext_trans HE5.out (ext_trans HE12.out (ext_trans HE16.out hE17)))
            clear hE17
            go_wp2
            refine bodyPost_ret (results_tmp rfl _ _ _) rfl ?_
            exact ⟨rfl, HFIN.out⟩
  · have hzb : decide (chk t = 0) = false := by simpa using hz
    go_wp2
    refine bodyPost_ret (results_tmp rfl _ _ _) rfl ?_
    exact ⟨rfl, HE5.out⟩
end Go.Proofs.Ytiabmdboacpmcaa
/- ReachOrders: in whatever order edges come, and whichever went again, the pairs are those of the edges that are there. No condition. -/
namespace Go.Proofs.Ytiabmdboacpmcaa
open Go.ChangeShapes Go.WideShapes Go.ChangeAt Go.WideMaps Go.WideElems Go.RowKit

set_option maxRecDepth 100000 in
theorem orders_lifted (os : Os) (started : os.Started) (H : Type) (enc : TypeId × Value → H) :
    ReturnsInHanded {} Try.checked os 16 .any (Rows.reachOrdersSpec.pre6 enc Try.prog Try.f16 Rows.reachOrdersRow.domain false) (Rows.reachOrdersSpec.post enc Try.prog Try.f16 false true false false) := by
  refine returnsInHanded_of_change_sized (C := Try.checked) own started (by kernel_rfl) Try.func16
    (ChangeSpec.witness6 (enc := enc) (C := Try.checked) false ⟨#[], #[.slice none 0 0, .slice none 0 0, .agg #[.int .u8 0, .int .u8 0]], []⟩ 8 (by kernel_rfl) (by kernel_rfl) (by kernel_rfl) (by kernel_rfl)) ?_
  intro W base args ds gs before hval0 hW _ hsz0 _
  clear hsz0
  have hval : ∀ (j : Nat) t v, Try.f16.params[j]? = some t → args[j]? = some v → Value.okWide Try.prog W .any base t v := hval0
  have hW' := hW
  obtain ⟨p, q, hA0, hV, rfl, hfz, hnd⟩ := hW
  have hA : DataW.TrodAll enc Try.prog W 0 (fun _ => true) true Try.f16.params.toList args.toList ds p := hA0
  rw [Try.params16] at hA hval
  obtain ⟨v0, vs0, d0, ds0, p0, q0, hargs, rfl, rfl, h0, r0⟩ := trodAll_cons hA
  obtain ⟨v1, vs1, d1, ds1, p1, q1, rfl, rfl, rfl, h1, r1⟩ := trodAll_cons r0
  obtain ⟨v2, vs2, d2, ds2, p2, q2, rfl, rfl, rfl, h2, r2⟩ := trodAll_cons r1
  obtain ⟨rfl, rfl, rfl⟩ := trodAll_nil r2
  obtain rfl : args = #[v0, v1, v2] := by cases args; simp_all
  obtain ⟨rfl, rfl⟩ := trodVars_none hV
  have lt0 : ∀ x ∈ p0, x.block < W.heap.size := by obtain ⟨m, hm⟩ := h0; exact DataW.trod_lt m _ _ _ hm
  obtain ⟨L0, ha0, hl0⟩ := open_nodes (hval 0 22 v0 rfl rfl) h0
  have lt1 : ∀ x ∈ p1, x.block < W.heap.size := by obtain ⟨m, hm⟩ := h1; exact DataW.trod_lt m _ _ _ hm
  obtain ⟨L1, ha1⟩ := open_acts (hval 1 60 v1 rfl rfl) h1
  have lt2 : ∀ x ∈ p2, x.block < W.heap.size := by obtain ⟨m, hm⟩ := h2; exact DataW.trod_lt m _ _ _ hm
  obtain ⟨a2, b2, rfl, w2⟩ := open_twoU (hval 2 94 v2 rfl rfl) h2
  clear hA0 hval0
  refine (orders_law v0 v1 L0 L1 a2 b2 W ha0 ha1 w2.1 w2.2).mono fun e W' ⟨he, bel⟩ => ?_
  subst he
  have bel : Below W.heap.size W W' := bel
  exact ⟨_, rfl, _, _, _, [], _, [], hW', trodAll_mk1 (shut_bool Try.underlying4 _), (trodAll_cons_mk (Below.trod laidOut (by kernel_rfl) (of_decide_eq_true (by kernel_rfl)) h0 bel lt0) (trodAll_cons_mk (Below.trod laidOut (by kernel_rfl) (of_decide_eq_true (by kernel_rfl)) h1 bel lt1) (trodAll_cons_mk (Below.trod laidOut (by kernel_rfl) (of_decide_eq_true (by kernel_rfl)) h2 bel lt2) trodAll_mk0))), rfl, bel.frame _, fun h => by cases h⟩

theorem orders_holds : Rows.ReachOrdersSaid :=
  OpenClaim.holds_of_wide 16 Try.f16 rfl rfl rfl rfl rfl rfl rfl ⟨rfl, rfl, rfl, rfl, rfl⟩ rfl rfl rfl rfl rfl (by kernel_rfl) Try.func16 (by kernel_rfl)
    (of_decide_eq_true (by kernel_rfl)) (by unfold Func.isWrapper; first | (rw [if_pos (by decide +kernel)]; kernel_rfl) | (rw [if_neg (by decide +kernel)]; exact ⟨rfl, rfl⟩))
    (fun os started H enc _ => orders_lifted os started H enc)
#print axioms orders_holds
end Go.Proofs.Ytiabmdboacpmcaa
