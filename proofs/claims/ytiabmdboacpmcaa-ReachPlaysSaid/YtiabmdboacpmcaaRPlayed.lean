/- ReachPlays: whatever is added and expires, what is told is the document's, of the edges that are there; no more is kept than may be. No condition. -/
import Derived.Test.YtiabmdboacpmcaaY26
import Derived.Test.YtiabmdboacpmcaaY29
import Derived.Test.YtiabmdboacpmcaaY25
import Derived.Deep.DeepCutAuto
import Derived.Test.YtiabmdboacpmcaaY28
/- Of: the pairs of edges. -/
namespace Go.Proofs.Ytiabmdboacpmcaa
open Go Go.RowKit Go.Sort Go.WideMaps Go.Maps
set_option maxHeartbeats 4000000

def doneL (f : Gr3) (done : List Key) : List Ed := done.map fun k => (k, (f k).getD 0)
theorem doneL_snoc (f : Gr3) (done : List Key) (k : Key) : doneL f (done ++ [k]) = doneL f done ++ [(k, (f k).getD 0)] := by simp [doneL]
theorem doneL_nd {f : Gr3} {done : List Key} (h : done.Nodup) : KeysNd (doneL f done) := by
  unfold KeysNd doneL
  rw [List.map_map]
  have : ((fun e : Ed => e.1) ∘ fun k => (k, (f k).getD 0)) = fun k : Key => k := rfl
  rw [this, List.map_id']
  exact h
theorem doneL_add {f : Gr3} {done : List Key} {k : Key} {u : Int} (hk : k ∉ done) (hu : f k = some u) : addL (doneL f done) k u = doneL f (done ++ [k]) := by
  rw [addL_none, doneL_snoc, hu]
  · rfl
  · intro e he hc
    unfold doneL at he
    obtain ⟨k', h1, rfl⟩ := List.mem_map.1 he
    simp only at hc
    rw [hc] at h1
    exact hk h1
theorem doneL_all {f : Gr3} {done : List Key} (hnd : done.Nodup) (hs : ∀ k ∈ done, (f k).isSome = true) (hall : ∀ k, (f k).isSome = true → k ∈ done) : grOf (doneL f done) = f := by
  funext k
  refine Option.ext fun u => ?_
  rw [grOf_some (doneL_nd hnd)]
  unfold doneL
  rw [List.mem_map]
  constructor
  · rintro ⟨k', h1, h2⟩
    simp only [Prod.mk.injEq] at h2
    obtain ⟨v, hv⟩ := Option.isSome_iff_exists.1 (hs k' h1)
    rw [hv] at h2
    rw [← h2.1, hv, ← h2.2]
    rfl
  · intro h1
    exact ⟨k, hall k (by rw [h1]; rfl), by rw [h1]; rfl⟩
def OfTo (t : Tr) (f : Gr3) (w : World) (e : Ending) (w' : World) : Prop := ∃ qb N p, e = .returned (.tuple #[.map (some qb), .int .i64 0]) ∧ MapQ qb N p w' ∧ PrsOf (Words t) f p ∧ Ext w w'
set_option maxRecDepth 100000 in
theorem of_any (t : Tr) (v : Value) (f : Gr3) (be NE : Nat) (ks : List Key) (w : World) (hv : PV w t v) (hc : chk t = 0) (hm : MapE be NE f w) (hC : Card f ks) (hkl : ks.length ≤ 80) (hr : ∀ k u, f k = some u → rightB k u = true) :
    Calls Try.prog 52 #[v, .map (some be)] w (OfTo t f w) := by
  obtain ⟨kd, nn, A0, n0, c0, rfl⟩ : ∃ k n A l c, v = .agg #[.int .i64 k, .int .i64 n, .slice A l c] := by
    obtain ⟨k, n, ps⟩ := t
    obtain ⟨s, rfl, hs⟩ := hv
    obtain ⟨A, c, rfl⟩ := PS_form hs
    exact ⟨k, n, A, _, c, rfl⟩
  have hE0 := ext_alloc (ext_refl w) (.cells #[.int .i64 kd, .int .i64 nn, .slice A0 n0 c0] 30)
  have HE0 := Lib.hid hE0
  have CN := Lib.hid (new_z t _ 10000 _ (PV_ext hv hE0) hc (by omega))
  have HM := Lib.hid hm
  have HC := Lib.hid hC
  have HRT := Lib.hid hr
  have HN := Lib.hid (card_len hC hm)
  have hne : NE ≤ 80 := by rw [card_len hC hm]; exact hkl
  clear hv hc hm hC hkl hr hE0
  go_enter Try.func52, Try.ntmps52
  go_wp2_with fail
  refine CN.out.mono ?_
  rintro e w1 ⟨L, rfl, hZ, hE1⟩
  have HS0 := Lib.hid (show w.heap.size ≤ (w.alloc (.cells #[.int .i64 kd, .int .i64 nn, .slice A0 n0 c0] 30)).heap.size from ext_size HE0.out)
  obtain ⟨G, hG⟩ : ∃ G : Nat → Prop, G = fun b => (w.alloc (.cells #[.int .i64 kd, .int .i64 nn, .slice A0 n0 c0] 30)).heap.size ≤ b ∧ b < w1.heap.size := ⟨_, rfl⟩
  rw [← hG] at hZ
  have HG := Lib.hid hG
  have HZ1 := Lib.hid hZ
  have HE1 := Lib.hid (ext_trans HE0.out hE1)
  clear hZ hE1 CN hG
  go_wp2_with (first
    | (at_range; refine wpList_range_G _ rfl _ _ rfl Try.underlying95 rfl (mapG_ext HM.out HE1.out) ?_; intro w2 r1 hr0; have HLR := Lib.hid hr0; clear hr0; intro hrng hE2 hs2)
    | go_in)
  have HRN := Lib.hid hrng
  have HE2 := Lib.hid hE2
  clear hrng hE2 hs2
  go_simp
  go_loopw [] (fun wn => ∃ (done : List Key), RngG kK eI be r1 NE f done wn ∧ Ext w1 wn) (fun wn => wn.rangeLeft be r1)
  case atStart => exact ⟨[], HRN.out, HE2.out⟩
  case round =>
    rename World => wn
    obtain ⟨done, hR, hE⟩ := hrel
    have HR := Lib.hid hR
    have HE := Lib.hid hE
    clear hR hE
    go_wp2_with (first
      | (at_next; refine wpList_next_G wn rfl _ rfl rfl HR.out ?_ ?_)
      | go_in)
    · intro hall
      have HEN := Lib.hid (ext_trans HE1.out HE.out)
      have hlen : ∀ ty, (Builtin.len_ #[95] ty #[.map (some be)]).run Try.prog wn = .ok (.int .i64 (NE : Int)) wn := fun ty => len_G Try.underlying95 (rngG_map HR.out)
      have hle : ¬ (10000 : Int) < (NE : Int) := by omega
      have HZN := Lib.hid (foZ_ext HZ1.out HE.out)
      have HS1 := Lib.hid (show w1.heap.size ≤ wn.heap.size from ext_size HE.out)
      clear hall HR HE HRN HE2 HLR
      go_wp2_with (first
        | (at_range; refine wpList_range_G _ rfl _ _ rfl Try.underlying95 rfl (mapG_ext HM.out HEN.out) ?_; intro w3 r2 hr0; have HLR := Lib.hid hr0; clear hr0; intro hrng hE3 hs3)
        | go_in)
      have HRN := Lib.hid hrng
      have HE3 := Lib.hid (ext_trans HEN.out hE3)
      have HZ3 := Lib.hid (foZ_ext HZN.out hE3)
      have HSZ := Lib.hid (show w1.heap.size ≤ r2 ∧ r2 < w3.heap.size from ⟨by rw [HLR.out]; exact HS1.out, by rw [HLR.out]; omega⟩)
      clear hrng hE3 hs3 hlen hle
      go_simp
      go_loopw [] (fun wm => ∃ (done : List Key) (F : Nat → Prop), RngG kK eI be r2 NE f done wm ∧ FoZ t 10000 minI (grOf (doneL f done)) L F G wm ∧ (∀ b, F b → w.heap.size ≤ b ∧ b ≠ r2 ∧ b < wm.heap.size) ∧ (∀ k ∈ done, (f k).isSome = true) ∧ r2 < wm.heap.size ∧ Ext w wm) (fun wm => wm.rangeLeft be r2)
      case atStart => exact ⟨[], G, HRN.out, by rw [HG.out]; rw [HG.out] at HZ3; exact HZ3.out, fun b hb => by
        rw [HG.out] at hb
        have h1 := HS0.out
        have h2 := HSZ.out
        omega, fun k hk => (by cases hk), HSZ.out.2, HE3.out⟩
      case round =>
        rename World => wm
        obtain ⟨done, F, hR, hZ, hF, hs, hr2, hE⟩ := hrel
        have HR := Lib.hid hR
        have HZ := Lib.hid hZ
        have HF := Lib.hid hF
        have HDS := Lib.hid hs
        have HR2 := Lib.hid hr2
        have HE := Lib.hid hE
        clear hR hZ hF hs hr2 hE
        go_wp2_with (first
          | (at_next; refine wpList_next_G wm rfl _ rfl rfl HR.out ?_ ?_)
          | go_in)
        · intro hall
          have hdl : (doneL f done).length ≤ 80 := by
            unfold doneL
            rw [List.length_map]
            have := nodupK_le (rngG_nodup HR.out) (M := ks) (fun k hk => (HC.out.mem k).2 (HDS.out k hk))
            rw [← HN.out] at this
            omega
          have HP := Lib.hid (pairs_z HZ.out (doneL_nd (rngG_nodup HR.out)) (by omega))
          have HGR := Lib.hid (doneL_all (rngG_nodup HR.out) HDS.out hall)
          clear hall hdl
          go_wp2_with fail
          refine HP.out.mono ?_
          rintro e w9 ⟨qb, NQ, p, rfl, hQ, hP, -, hE9⟩
          rw [HGR.out] at hP
          have HFIN := Lib.hid (show OfTo t f w (.returned (.tuple #[.map (some qb), .int .i64 0])) w9 from ⟨qb, NQ, p, rfl, hQ, hP, ext_trans HE.out hE9⟩)
          clear hQ hP hE9
          go_wp2
          go_ret2
          exact HFIN.out
        · intro k u w4 hfx hnx hR4 hlt4 hg4 hs4 hent
          rw [show kK.val k = .agg #[.int .i64 k.a, .int .i64 k.b, .int .i64 k.c] from rfl, show eI.val u = .int .i64 u from rfl] at hent ⊢
          have hok := mapG_out (rngG_map HR.out) hfx
          have hrt := HRT.out k u hfx
          obtain ⟨ka, kb, kc⟩ := k
          have hU4 := upd_grown hg4
          obtain ⟨wa, hwa⟩ : ∃ x', x' = w4.alloc (.cells #[.int .i64 ka, .int .i64 kb, .int .i64 kc] 85) := ⟨_, rfl⟩
          have hEa : Ext w4 wa := by rw [hwa]; exact ext_alloc (ext_refl _) _
          have hUr : Upd (fun b => b = r2) wm wa := upd_trans (upd_mono hU4 (fun i _ e => (Option.some.inj e).symm)) (upd_of_ext (fp := fun _ => False) hEa) (fun _ _ h => h.elim)
          have hza := foZ_upd HZ.out hUr (fun b hb e => by
            have e' : b = r2 := e
            rcases hb with hb | hb
            · exact (HF.out b hb).2.1 e'
            · rw [HG.out] at hb
              have := HSZ.out.1
              omega)
          have hdl : (doneL f done).length ≤ 80 := by
            unfold doneL
            rw [List.length_map]
            have := nodupK_le (rngG_nodup HR.out) (M := ks) (fun k hk => (HC.out.mem k).2 (HDS.out k hk))
            rw [← HN.out] at this
            omega
          have hadd := add_z (k := ⟨ka, kb, kc⟩) (u := u) hza (doneL_nd (rngG_nodup HR.out)) (by omega) (by omega) hok.1 hok.2 hrt (by unfold minI; have := okI_iff.1 hok.2; omega)
          rw [doneL_add hnx hfx] at hadd
          have hEw : Ext w wa := ext_of_upd (upd_trans (upd_of_ext HE.out) hUr (fun i hi e => absurd hi (by have e' : i = r2 := e; have h1 := HSZ.out.1; have h2 := ext_size HE1.out; omega)))
          have HADD := Lib.hid hadd
          have HRA := Lib.hid (rngG_ext hR4 hEa)
          have HLA := Lib.hid (show wa.rangeLeft be r2 < wm.rangeLeft be r2 by rw [left_ext hR4 hEa]; exact hlt4)
          have HEW := Lib.hid hEw
          have HSA := Lib.hid (show wm.heap.size ≤ wa.heap.size from hUr.size)
          have HFX := Lib.hid hfx
          have HWB := Lib.hid hwa
          clear hfx hnx hR4 hlt4 hg4 hs4 hok hrt hU4 hEa hUr hza hdl hadd hEw hwa
          go_wp2_with fail
          rw [← HWB.out]
          refine HADD.out.mono ?_
          rintro e w5 ⟨rfl, hZ5, hU5⟩
          have hs5 := hU5.size
          have hnF : ¬ F r2 := fun hf => (HF.out r2 hf).2.1 rfl
          have hnb : ¬ F be := fun hf => by
            have h1 := (HF.out be hf).1
            have h2 := mapG_lt HM.out
            omega
          have HR5 := Lib.hid (rngG_upd HRA.out hU5 hnb hnF)
          have HL5 := Lib.hid (show w5.rangeLeft be r2 < wm.rangeLeft be r2 by rw [left_upd HRA.out hU5 hnb hnF]; exact HLA.out)
          have HZ5 := Lib.hid hZ5
          have HE5 := Lib.hid (show Ext w w5 from ext_of_upd (upd_trans (upd_of_ext HEW.out) hU5 (fun i hi hf => absurd hi (by have := (HF.out i hf).1; omega))))
          have HF5 := Lib.hid (show ∀ b, (F b ∨ wa.heap.size ≤ b ∧ b < w5.heap.size) → w.heap.size ≤ b ∧ b ≠ r2 ∧ b < w5.heap.size from fun b hb => by
            have h1 := HSA.out
            have h2 := HR2.out
            have h3 := ext_size HEW.out
            rcases hb with hb | hb
            · obtain ⟨h4, h5, h6⟩ := HF.out b hb
              exact ⟨h4, h5, by omega⟩
            · exact ⟨by omega, by omega, hb.2⟩)
          have HD5 := Lib.hid (show ∀ k ∈ done ++ [⟨ka, kb, kc⟩], (f k).isSome = true from fun k hk => by
            rcases List.mem_append.1 hk with h1 | h1
            · exact HDS.out k h1
            · rw [List.mem_singleton.1 h1, HFX.out]; rfl)
          have HS5 := Lib.hid (show r2 < w5.heap.size by have h1 := HSA.out; have h2 := HR2.out; omega)
          clear hZ5 hU5 hs5 hnF hnb
          go_wp2
          go_roundw
          case rel => exact ⟨_, _, HR5.out, HZ5.out, HF5.out, HD5.out, HS5.out, HE5.out⟩
          case measure => exact HL5.out
    · intro k u w4 hfx hnx hR4 hlt4 hg4 hs4 hent
      rw [show kK.val k = .agg #[.int .i64 k.a, .int .i64 k.b, .int .i64 k.c] from rfl, show eI.val u = .int .i64 u from rfl] at hent ⊢
      have hrt := HRT.out k u hfx
      obtain ⟨ka, kb, kc⟩ := k
      have hU4 := upd_grown hg4
      obtain ⟨wa, hwa⟩ : ∃ x', x' = w4.alloc (.cells #[.int .i64 ka, .int .i64 kb, .int .i64 kc] 85) := ⟨_, rfl⟩
      have hEa : Ext w4 wa := by rw [hwa]; exact ext_alloc (ext_refl _) _
      have hEw : Ext w1 wa := ext_trans (ext_of_upd (upd_trans (upd_of_ext HE.out) hU4 (fun i hi e => absurd hi (by have e' : r1 = i := Option.some.inj e; have h1 := HLR.out; omega)))) hEa
      have HRA := Lib.hid (rngG_ext hR4 hEa)
      have HLA := Lib.hid (show wa.rangeLeft be r1 < wn.rangeLeft be r1 by rw [left_ext hR4 hEa]; exact hlt4)
      have HEW := Lib.hid hEw
      have HRIGHT := Lib.hid (right_any ⟨ka, kb, kc⟩ u wa)
      rw [hrt] at HRIGHT
      have HWB := Lib.hid hwa
      clear hfx hnx hR4 hlt4 hg4 hs4 hrt hU4 hEa hEw hwa
      go_wp2_with fail
      rw [← HWB.out]
      refine HRIGHT.out.mono ?_
      rintro e w5 ⟨rfl, hE5⟩
      have HR5 := Lib.hid (rngG_ext HRA.out hE5)
      have HL5 := Lib.hid (show w5.rangeLeft be r1 < wn.rangeLeft be r1 by rw [left_ext HRA.out hE5]; exact HLA.out)
      have HE5 := Lib.hid (ext_trans HEW.out hE5)
      clear hE5
      go_wp2
      go_roundw
      case rel => exact ⟨_, HR5.out, HE5.out⟩
      case measure => exact HL5.out
end Go.Proofs.Ytiabmdboacpmcaa
/- Plain: in whatever order edges come, the same are there. -/
namespace Go.Proofs.Ytiabmdboacpmcaa
open Go

theorem edsL_snoc (L : List AR) (x : AR) : edsL (L ++ [x]) = addL (edsL L) (absK x.key) (untZ x.till) := by
  unfold edsL
  rw [List.foldl_append]
  rfl
theorem grOf_add_iff (E : List Ed) (k : Key) (u : Int) (k' : Key) (v : Int) : grOf (addL E k u) k' = some v ↔ if k' = k then (v = u ∨ grOf E k = some v) ∧ u ≤ v ∧ (∀ z, grOf E k = some z → z ≤ v) else grOf E k' = some v := by
  rw [grOf_add]
  by_cases e : k' = k
  · subst e
    rw [if_pos rfl]
    cases h : grOf E k' with
    | none =>
      simp only [setG_same]
      constructor
      · intro h1; cases h1; exact ⟨.inl rfl, Int.le_refl _, fun z hz => by cases hz⟩
      · rintro ⟨h1 | h1, _⟩
        · rw [h1]
        · cases h1
    | some z =>
      simp only
      by_cases hz : z < u
      · rw [if_pos hz, setG_same]
        constructor
        · intro h1; cases h1; exact ⟨.inl rfl, Int.le_refl _, fun z' hz' => by cases hz'; omega⟩
        · rintro ⟨h1 | h1, h2, h3⟩
          · rw [h1]
          · cases h1; omega
      · rw [if_neg hz, h]
        constructor
        · intro h1; cases h1; exact ⟨.inr rfl, by omega, fun z' hz' => by cases hz'; exact Int.le_refl _⟩
        · rintro ⟨h1 | h1, h2, h3⟩
          · have := h3 z rfl
            congr 1
            omega
          · exact h1
  · rw [if_neg e]
    cases h : grOf E k with
    | none => simp only [setG_other e]
    | some z =>
      simp only
      split
      · rw [setG_other e]
      · exact Iff.rfl
theorem edsL_iff (L : List AR) : ∀ (k : Key) (u : Int), grOf (edsL L) k = some u ↔ (∃ x ∈ L, absK x.key = k ∧ untZ x.till = u) ∧ ∀ x ∈ L, absK x.key = k → untZ x.till ≤ u := by
  obtain ⟨n, hn⟩ : ∃ n, n = L.length := ⟨_, rfl⟩
  induction n generalizing L with
  | zero =>
    intro k u
    have : L = [] := List.eq_nil_of_length_eq_zero hn.symm
    subst this
    simp [edsL, grOf_nil]
  | succ n ih =>
    intro k u
    obtain ⟨M, x, rfl⟩ : ∃ M x, L = M ++ [x] := by
      rcases List.eq_nil_or_concat L with h | ⟨M, x, h⟩
      · rw [h] at hn; simp at hn
      · exact ⟨M, x, by rw [h, List.concat_eq_append]⟩
    have hM := ih M (by simp at hn; exact hn)
    rw [edsL_snoc, grOf_add_iff]
    by_cases e : k = absK x.key
    · subst e
      rw [if_pos rfl]
      constructor
      · rintro ⟨h1, h2, h3⟩
        refine ⟨?_, fun y hy hk => ?_⟩
        · rcases h1 with h1 | h1
          · exact ⟨x, by simp, rfl, h1.symm⟩
          · obtain ⟨⟨y, hy, h4, h5⟩, _⟩ := (hM _ _).1 h1
            exact ⟨y, List.mem_append_left _ hy, h4, h5⟩
        · rcases List.mem_append.1 hy with h4 | h4
          · cases hg : grOf (edsL M) (absK x.key) with
            | none =>
              exfalso
              have hsome : ∃ z, grOf (edsL M) (absK x.key) = some z := by
                have hmem : absK x.key ∈ (edsL M).map (·.1) := by
                  have hgen : ∀ (L' : List AR) (E : List Ed), (∃ y ∈ L', absK y.key = absK x.key) ∨ absK x.key ∈ E.map (·.1) → absK x.key ∈ (L'.foldl (fun E x => addL E (absK x.key) (untZ x.till)) E).map (·.1) := by
                    intro L'
                    induction L' with
                    | nil =>
                      intro E h
                      rcases h with ⟨y, hy, _⟩ | h
                      · cases hy
                      · exact h
                    | cons z L' ih' =>
                      intro E h
                      rw [List.foldl_cons]
                      refine ih' _ ?_
                      rcases h with ⟨y, hy, hk'⟩ | h
                      · rcases List.mem_cons.1 hy with rfl | hy'
                        · right
                          rw [addL_keys, hk']
                          split
                          · assumption
                          · simp
                        · exact .inl ⟨y, hy', hk'⟩
                      · right
                        rw [addL_keys]
                        split
                        · exact h
                        · exact List.mem_append_left _ h
                  exact hgen M [] (.inl ⟨y, h4, hk⟩)
                exact Option.isSome_iff_exists.1 (grOf_isSome.2 hmem)
              obtain ⟨z, hz⟩ := hsome
              rw [hg] at hz
              cases hz
            | some z =>
              have h5 := ((hM _ _).1 hg).2 y h4 hk
              have h6 := h3 z hg
              omega
          · rw [List.mem_singleton.1 h4]; exact h2
      · rintro ⟨⟨y, hy, h1, h2⟩, h3⟩
        refine ⟨?_, h3 x (by simp) rfl, fun z hz => ?_⟩
        · rcases List.mem_append.1 hy with h4 | h4
          · right
            exact (hM _ _).2 ⟨⟨y, h4, h1, h2⟩, fun y' hy' hk => h3 y' (List.mem_append_left _ hy') hk⟩
          · left
            rw [List.mem_singleton.1 h4] at h2
            exact h2.symm
        · obtain ⟨⟨y', h4, h5, h6⟩, _⟩ := (hM _ _).1 hz
          rw [← h6]
          exact h3 y' (List.mem_append_left _ h4) h5
    · rw [if_neg e, hM]
      constructor
      · rintro ⟨⟨y, hy, h1, h2⟩, h3⟩
        refine ⟨⟨y, List.mem_append_left _ hy, h1, h2⟩, fun y' hy' hk => ?_⟩
        rcases List.mem_append.1 hy' with h4 | h4
        · exact h3 y' h4 hk
        · rw [List.mem_singleton.1 h4] at hk; exact absurd hk.symm e
      · rintro ⟨⟨y, hy, h1, h2⟩, h3⟩
        refine ⟨?_, fun y' hy' hk => h3 y' (List.mem_append_left _ hy') hk⟩
        rcases List.mem_append.1 hy with h4 | h4
        · exact ⟨y, h4, h1, h2⟩
        · rw [List.mem_singleton.1 h4] at h1; exact absurd h1.symm e
theorem edsL_same {L M : List AR} (h : ∀ x, x ∈ L ↔ x ∈ M) : grOf (edsL L) = grOf (edsL M) := by
  funext k
  refine Option.ext fun u => ?_
  rw [edsL_iff, edsL_iff]
  constructor
  · rintro ⟨⟨x, hx, h1⟩, h2⟩
    exact ⟨⟨x, (h x).1 hx, h1⟩, fun y hy => h2 y ((h y).2 hy)⟩
  · rintro ⟨⟨x, hx, h1⟩, h2⟩
    exact ⟨⟨x, (h x).2 hx, h1⟩, fun y hy => h2 y ((h y).1 hy)⟩
/-- begun elsewhere -/
def rotN (L : List AR) (s j : Nat) : List AR := (List.range j).filterMap fun i => L[(i + s) % L.length]?
theorem rotN_step {L : List AR} {s j : Nat} {x : AR} (h : L[(j + s) % L.length]? = some x) : rotN L s (j + 1) = rotN L s j ++ [x] := by
  unfold rotN
  rw [List.range_succ, List.filterMap_append]
  simp [h]
theorem rotN_len (L : List AR) (s j : Nat) : (rotN L s j).length ≤ j := by
  unfold rotN
  have := List.length_filterMap_le (fun i => L[(i + s) % L.length]?) (List.range j)
  rw [List.length_range] at this
  exact this
theorem rotN_mem {L : List AR} {s : Nat} (x : AR) : x ∈ rotN L s L.length ↔ x ∈ L := by
  unfold rotN
  rw [List.mem_filterMap]
  constructor
  · rintro ⟨i, _, h⟩
    exact List.mem_of_getElem? h
  · intro h
    obtain ⟨i, hi⟩ := List.getElem?_of_mem h
    have hl := (List.getElem?_eq_some_iff.1 hi).1
    have h1 : s % L.length < L.length := Nat.mod_lt _ (by omega)
    refine ⟨(i + (L.length - s % L.length)) % L.length, List.mem_range.2 (Nat.mod_lt _ (by omega)), ?_⟩
    have h2 : ((i + (L.length - s % L.length)) % L.length + s) % L.length = i := by
      rw [Nat.mod_add_mod, ← Nat.add_mod_mod, show i + (L.length - s % L.length) + s % L.length = i + L.length by omega, Nat.add_mod_right, Nat.mod_eq_of_lt hl]
    rw [h2]
    exact hi
theorem rot_gr (L : List AR) (s : Nat) : grOf (edsL (rotN L s L.length)) = grOf (edsL L) := edsL_same (fun x => rotN_mem x)
end Go.Proofs.Ytiabmdboacpmcaa
/- What ReachPlays leans on: New's codes, Size, Find, an edge more or not. -/
namespace Go.Proofs.Ytiabmdboacpmcaa
open Go Go.RowKit Go.Sort Go.WideMaps Go.Maps
set_option maxHeartbeats 4000000

theorem states_z (W w : World) (p m b : Nat) (en : Int) (mv : List Mv) (h : Mach W p m b en mv w) : Calls Try.prog 29 #[.pointer (some ⟨p, 0, none⟩)] w fun e w' => e = .returned (.int .i64 (m : Int)) ∧ w' = w := by
  obtain ⟨A0, c0, hpb⟩ := cur_zero h.cur
  have q0 := block_cell hpb 0
  have lp := block_lt hpb
  simp at q0
  clear hpb h
  go_enter Try.func29, Try.ntmps29
  go_wp2
  refine bodyPost_ret (results_tmp rfl _ _ _) rfl ?_
  exact ⟨rfl, rfl⟩
def NewNo (c : Int) (w : World) (e : Ending) (w' : World) : Prop := e = .returned (.tuple #[.pointer none, .int .i64 c]) ∧ Ext w w'
set_option maxRecDepth 100000 in
theorem new_code (t : Tr) (v : Value) (room : Int) (w : World) (hv : PV w t v) (hN : sizeT t ≤ 100000) (hc : chk t ≠ 0) : Calls Try.prog 41 #[v, .int .i64 room] w (NewNo (chk t) w) := by
  have HV := Lib.hid hv
  have CC := Lib.hid (fun w1 (hE : Ext w w1) => compile_no t v w1 hN (PV_ext hv hE) hc)
  obtain ⟨kd, nn, A0, n0, c0, rfl⟩ : ∃ k n A l c, v = .agg #[.int .i64 k, .int .i64 n, .slice A l c] := by
    obtain ⟨k, n, ps⟩ := t
    obtain ⟨s, rfl, hs⟩ := hv
    obtain ⟨A, c, rfl⟩ := PS_form hs
    exact ⟨k, n, A, _, c, rfl⟩
  have HC := Lib.hid hc
  have HE0 := Lib.hid (ext_alloc (ext_refl w) (.cells #[.int .i64 kd, .int .i64 nn, .slice A0 n0 c0] 30))
  clear hv hN
  go_enter Try.func41, Try.ntmps41
  go_wp2_with fail
  refine (CC.out _ HE0.out).mono ?_
  rintro e w2 ⟨rfl, hE2⟩
  have HE2 := Lib.hid (ext_trans HE0.out hE2)
  clear hE2
  go_wp2
  refine bodyPost_ret (v := .tuple #[.pointer none, .int .i64 (chk t)]) (by simp [results, Try.results41, go_sem]) rfl ?_
  exact ⟨rfl, HE2.out⟩
set_option maxRecDepth 100000 in
theorem new_range (t : Tr) (v : Value) (room : Int) (w : World) (hv : PV w t v) (hc : chk t = 0) (hr : room < 1 ∨ 10000 < room) : Calls Try.prog 41 #[v, .int .i64 room] w (NewNo 2 w) := by
  have HV := Lib.hid hv
  have CC := Lib.hid (fun w1 (hE : Ext w w1) => compile_yes t v w1 (PV_ext hv hE) hc)
  obtain ⟨kd, nn, A0, n0, c0, rfl⟩ : ∃ k n A l c, v = .agg #[.int .i64 k, .int .i64 n, .slice A l c] := by
    obtain ⟨k, n, ps⟩ := t
    obtain ⟨s, rfl, hs⟩ := hv
    obtain ⟨A, c, rfl⟩ := PS_form hs
    exact ⟨k, n, A, _, c, rfl⟩
  have HE0 := Lib.hid (ext_alloc (ext_refl w) (.cells #[.int .i64 kd, .int .i64 nn, .slice A0 n0 c0] 30))
  have HR := Lib.hid hr
  clear hv hr
  go_enter Try.func41, Try.ntmps41
  go_wp2_with fail
  refine (CC.out _ HE0.out).mono ?_
  rintro e w2 ⟨pm, rfl, -, hE2⟩
  have HE2 := Lib.hid (ext_trans HE0.out hE2)
  clear hE2
  by_cases h1 : room < 1
  · have hd1 : decide (room < 1) = true := decide_eq_true h1
    go_wp2
    refine bodyPost_ret (v := .tuple #[.pointer none, .int .i64 2]) (by simp [results, Try.results41, go_sem]) rfl ?_
    exact ⟨rfl, HE2.out⟩
  · have hd1 : decide (room < 1) = false := decide_eq_false h1
    have h2 : (10000 : Int) < room := by rcases HR.out with h | h; exact absurd h h1; exact h
    have hd2 : decide ((10000 : Int) < room) = true := decide_eq_true h2
    go_wp2
    refine bodyPost_ret (v := .tuple #[.pointer none, .int .i64 2]) (by simp [results, Try.results41, go_sem]) rfl ?_
    exact ⟨rfl, HE2.out⟩
theorem flatMap_len {α β : Type} (l : List α) (g : α → List β) (B : Nat) (hg : ∀ x ∈ l, (g x).length = B) : (l.flatMap g).length = l.length * B := by
  induction l with
  | nil => simp
  | cons x l ih =>
    rw [List.flatMap_cons, List.length_append, List.length_cons, Nat.add_mul, Nat.one_mul, hg x (List.mem_cons_self ..), ih (fun y hy => hg y (List.mem_cons_of_mem _ hy))]
    omega
set_option maxRecDepth 100000 in
theorem size_z {t : Tr} {room h : Int} {E : List Ed} {L : Loc} {F G : Nat → Prop} {w : World} (H : FoZ t room h (grOf E) L F G w) (hnd : KeysNd E) : Calls Try.prog 51 #[ptr L.pf] w fun e w' => ∃ N : Nat, e = .returned (.int .i64 (N : Int)) ∧ N ≤ (nodesL E).length * ((nodesL E).length * (gen t 1 0).many) ∧ w' = w := by
  obtain ⟨W0, w0, h1, h2, h3⟩ := H
  obtain ⟨S, f, hMid, ⟨NB, hB⟩, hFix, -⟩ := h2.ex
  have hMa := machT_mach h1
  have HLE := Lib.hid (show NB ≤ (nodesL E).length * ((nodesL E).length * (gen t 1 0).many) from by
    have h5 := mapG_le (M := (nodesL E).flatMap fun r => (nodesL E).flatMap fun n => (List.range (gen t 1 0).many).map fun i : Nat => (⟨r, n, (i : Int)⟩ : Key)) hB (fun x hx => by
      obtain ⟨v, hv⟩ := Option.isSome_iff_exists.1 hx
      have hd := hFix.sound x v hv
      obtain ⟨i, hi, hxi⟩ := der_state hd hMa.dst hMa.lt
      obtain ⟨hn1, hn2⟩ := der_nodes hd
      refine List.mem_flatMap.2 ⟨x.a, (mem_nodesL hnd).2 hn1, List.mem_flatMap.2 ⟨x.b, (mem_nodesL hnd).2 hn2, List.mem_map.2 ⟨i, List.mem_range.2 hi, ?_⟩⟩⟩
      obtain ⟨a, b, c⟩ := x
      simp only at hxi
      rw [hxi])
    rw [flatMap_len _ _ ((nodesL E).length * (gen t 1 0).many) (fun r _ => flatMap_len _ _ _ (fun n _ => by rw [List.length_map, List.length_range]))] at h5
    exact h5)
  have q5 := block_cell hMid.blk 5
  have l0 := block_lt hMid.blk
  have hlen : ∀ ty, (Builtin.len_ #[120] ty #[.map (some L.bb)]).run Try.prog w = .ok (.int .i64 (NB : Int)) w := fun ty => len_G Try.underlying120 hB
  clear h1 h2 h3 hMid hB hFix hMa
  go_enter Try.func51, Try.ntmps51
  go_wp2
  refine bodyPost_ret (results_tmp rfl _ _ _) rfl ?_
  exact ⟨NB, rfl, HLE.out, rfl⟩
theorem len_z {t : Tr} {room h : Int} {E : List Ed} {L : Loc} {F G : Nat → Prop} {w : World} (H : FoZ t room h (grOf E) L F G w) (hnd : KeysNd E) : Calls Try.prog 47 #[ptr L.pf] w fun e w' => e = .returned (.int .i64 (E.length : Int)) ∧ w' = w := by
  obtain ⟨w0, h1⟩ := foZ_fo H
  have h2 := len_any t w0 L room h (grOf E) F (E.map (·.1)) w h1 (card_of hnd)
  rw [List.length_map] at h2
  exact h2
def FindTo (L : List Ed) (k : Key) (w : World) (e : Ending) (w' : World) : Prop := e = .returned (.bool (decide (k ∈ L.map (·.1)))) ∧ Ext w w'
set_option maxRecDepth 100000 in
theorem find_z (v : Value) (L : List Ed) (k : Key) (w : World) (h : rowE elDr w v L) (hl : L.length ≤ 1000) : Calls Try.prog 48 #[v, k3 k] w (FindTo L k w) := by
  obtain ⟨W, hW⟩ : ∃ W, W = w.alloc (.cells #[.int .i64 k.a, .int .i64 k.b, .int .i64 k.c] 73) := ⟨_, rfl⟩
  have hE0 : Ext w W := by rw [hW]; exact ext_alloc (ext_refl _) _
  obtain ⟨bk, hbk⟩ : ∃ b, b = w.heap.size := ⟨_, rfl⟩
  have hK : W.heap[bk]? = some (.cells #[.int .i64 k.a, .int .i64 k.b, .int .i64 k.c] 73 (0, 0)) := by rw [hW, hbk]; exact heap_alloc_new _ _
  have HK := Lib.hid hK
  have HE0 := Lib.hid hE0
  have HW := Lib.hid (And.intro hW hbk)
  have HR := Lib.hid (rowE_ext h hE0)
  obtain ⟨n, hn⟩ : ∃ n, n = L.length := ⟨_, rfl⟩
  have HN := Lib.hid hn
  obtain ⟨A0, c0, hv⟩ := rowE_form h
  rw [← hn] at hv hl
  subst hv
  clear hW hbk hK hE0 h hn
  simp only [k3]
  go_enter Try.func48, Try.ntmps48
  go_wp2
  rw [← HW.out.1, ← HW.out.2]
  go_loopw [8] (fun y wr => ∃ j : Nat, j ≤ n ∧ y = .int .i64 (j : Int) ∧ (∀ i e, i < j → L[i]? = some e → e.1 ≠ k) ∧ Ext W wr) (fun y _ => n - (intOf y).toNat)
  case atStart => exact ⟨0, by omega, rfl, fun i e hi => absurd hi (Nat.not_lt_zero _), ext_refl _⟩
  case round =>
    rename World => wr
    obtain ⟨j, hj, rfl, hno, hE⟩ := hrel
    have HNO := Lib.hid hno
    have HE := Lib.hid hE
    clear hno hE
    by_cases hlt : j < n
    · have hji : (j : Int) < (n : Int) := by omega
      have hj0 : (0 : Int) ≤ (j : Int) := by omega
      obtain ⟨x, hx⟩ : ∃ x, L[j]? = some x := ⟨_, List.getElem?_eq_getElem (by rw [← HN.out]; exact hlt)⟩
      have hri := rowE_ext HR.out HE.out
      obtain ⟨g, rfl, lg⟩ := rowE_some hri (fun e => by rw [e] at hx; simp at hx)
      have e0 : wr.cell? ⟨g, j * 4, none⟩ = some (.int .i64 x.1.a) := rowE_cell hri hx (j := 0) (u := .int .i64 x.1.a) rfl
      have e1 : wr.cell? ⟨g, j * 4 + 1, none⟩ = some (.int .i64 x.1.b) := rowE_cell hri hx (j := 1) (u := .int .i64 x.1.b) rfl
      have e2 : wr.cell? ⟨g, j * 4 + 2, none⟩ = some (.int .i64 x.1.c) := rowE_cell hri hx (j := 2) (u := .int .i64 x.1.c) rfl
      have hk := (ext_block HE.out (block_lt HK.out)).trans HK.out
      have k0 := block_cell hk 0
      have k1 := block_cell hk 1
      have k2 := block_cell hk 2
      have lk := block_lt hk
      have HX := Lib.hid hx
      have hgc := cell_grown
      clear hx hri hk
      by_cases hxk : x.1 = k
      · have heq : ∀ w : World, Sem.run Try.prog (Op.equalIn 10000 73 (.agg #[.int .i64 x.1.a, .int .i64 x.1.b, .int .i64 x.1.c]) (.agg #[.int .i64 k.a, .int .i64 k.b, .int .i64 k.c])) w = .ok true w := fun w => by rw [eqA3, decide_eq_true hxk]
        have HM := Lib.hid (show k ∈ L.map (·.1) from List.mem_map.2 ⟨x, List.mem_of_getElem? HX.out, hxk⟩)
        clear hxk
        go_wp2
        refine wp_region_free 7 [0, 1, 2, 3, 4, 5, 6] [] (by kernel_rfl) (by kernel_rfl) ?_
        repeat (refine wpLoose_step rfl (fun K hK => ?_); (try simp only [Oper.quietAt, Oper.quietUpon]); go_simp; (refine hK _ ?_; clear hK K))
        refine wpLoose_nil (wpFresh_nil (fun w2 hE2 _ => ?_))
        simp only [List.drop_succ_cons, List.drop_zero]
        have HF := Lib.hid (ext_trans HE0.out (ext_trans HE.out hE2))
        clear hE2 hgc e0 e1 e2 k0 k1 k2 lk lg heq
        go_wp2
        refine bodyPost_ret (results_tmp rfl _ _ _) rfl ?_
        exact ⟨by rw [decide_eq_true HM.out]; rfl, HF.out⟩
      · have heq : ∀ w : World, Sem.run Try.prog (Op.equalIn 10000 73 (.agg #[.int .i64 x.1.a, .int .i64 x.1.b, .int .i64 x.1.c]) (.agg #[.int .i64 k.a, .int .i64 k.b, .int .i64 k.c])) w = .ok false w := fun w => by rw [eqA3, decide_eq_false hxk]
        have HNX := Lib.hid (show ∀ i e, i < j + 1 → L[i]? = some e → e.1 ≠ k from fun i e hi he => by
          by_cases hij : i = j
          · rw [hij, HX.out] at he
            cases he
            exact hxk
          · exact HNO.out i e (by omega) he)
        clear hxk
        go_wp2
        refine wp_region_free 7 [0, 1, 2, 3, 4, 5, 6] [] (by kernel_rfl) (by kernel_rfl) ?_
        repeat (refine wpLoose_step rfl (fun K hK => ?_); (try simp only [Oper.quietAt, Oper.quietUpon]); go_simp; (refine hK _ ?_; clear hK K))
        refine wpLoose_nil (wpFresh_nil (fun w2 hE2 _ => ?_))
        simp only [List.drop_succ_cons, List.drop_zero]
        have HF := Lib.hid (ext_trans HE.out hE2)
        clear hE2 hgc e0 e1 e2 k0 k1 k2 lk lg heq
        go_wp2
        go_roundw
        case rel => exact ⟨j + 1, by omega, by go_num, HNX.out, HF.out⟩
        case measure => simp [intOf]; omega
    · have HM := Lib.hid (show k ∉ L.map (·.1) from fun hm => by
        obtain ⟨e, he, hek⟩ := List.mem_map.1 hm
        obtain ⟨i, hi⟩ := List.getElem?_of_mem he
        have hil := (List.getElem?_eq_some_iff.1 hi).1
        exact HNO.out i e (by rw [← HN.out] at hil; omega) hi hek)
      have hnl : ¬ (j : Int) < (n : Int) := by omega
      go_wp2
      refine bodyPost_ret (results_tmp rfl _ _ _) rfl ?_
      exact ⟨by rw [decide_eq_false HM.out]; rfl, ext_trans HE0.out HE.out⟩
theorem addg_z {t : Tr} {room h : Int} {E : List Ed} {L : Loc} {F G : Nat → Prop} {k : Key} {u : Int} {w : World} (H : FoZ t room h (grOf E) L F G w) (hnd : KeysNd E) (hl : E.length ≤ 90) (hk : ok3 k) (hu : okI u) :
    Calls Try.prog 42 #[ptr L.pf, k3 k, .int .i64 u] w fun e w' => e = .returned (.int .i64 (addC (grOf E) room E.length k u)) ∧ FoZ t room h (addG (grOf E) h room E.length k u) L (fun b => F b ∨ (w.heap.size ≤ b ∧ b < w'.heap.size)) G w' ∧ Upd F w w' := by
  obtain ⟨W0, w0, h1, h2, h3⟩ := H
  have hadd := add_any w0 W0 L room h (grOf E) _ 0 (enT t) (mvT t) F (E.map (·.1)) k u w h2 (machT_mach h1) (card_of hnd) (by rw [List.length_map]; omega) hk hu
  rw [List.length_map] at hadd
  refine hadd.mono ?_
  rintro e w' ⟨rfl, hF, hU⟩
  exact ⟨rfl, ⟨W0, w0, h1, forM_own hF (fun b hb hf => hf.imp (fun h => h) (fun h => ⟨h, hb⟩)), h3⟩, hU⟩
theorem add_doc {E : List Ed} {h room : Int} {k : Key} {u : Int} (hnd : KeysNd E) (hh : ∀ e ∈ E, h ≤ e.2) (hr : rightB k u = true) (hf : ¬ ((grOf E k).isSome = false ∧ room ≤ (E.length : Int))) : addC (grOf E) room E.length k u = 0 ∧ addG (grOf E) h room E.length k u = grOf (expL (addL E k u) h) := by
  have hge : ∀ k' v, grOf E k' = some v → h ≤ v := fun k' v hv => hh _ ((grOf_some hnd).1 hv)
  rw [grOf_exp (addL_nd hnd)]
  have hcut : cutG (grOf E) h = grOf E := by
    funext k'
    refine Option.ext fun v => ?_
    rw [cutG_some]
    exact ⟨fun h1 => h1.1, fun h1 => ⟨h1, hge _ _ h1⟩⟩
  by_cases h2 : u < h ∨ (grOf E k).isSome = true ∧ u ≤ (grOf E k).getD 0
  · obtain ⟨h3, h4⟩ := add_old (N := E.length) hr hf h2
    refine ⟨h3, h4.trans ?_⟩
    rw [grOf_add]
    cases hg : grOf E k with
    | none =>
      simp only
      rw [hg] at h2
      have hu : u < h := by rcases h2 with h2 | h2; exact h2; cases h2.1
      funext k'
      refine Option.ext fun v => ?_
      rw [cutG_some]
      by_cases e : k' = k
      · rw [e, setG_same, hg]
        constructor
        · intro h5; cases h5
        · rintro ⟨h5, h6⟩; cases h5; omega
      · rw [setG_other e]
        exact ⟨fun h1 => ⟨h1, hge _ _ h1⟩, fun h1 => h1.1⟩
    | some z =>
      simp only
      rw [hg] at h2
      have hz := hge k z hg
      have hu : ¬ z < u := by
        rcases h2 with h2 | h2
        · omega
        · have := h2.2; simp at this; omega
      rw [if_neg hu, hcut]
  · obtain ⟨h3, h4⟩ := add_put (N := E.length) hr hf h2
    refine ⟨h3, h4.trans ?_⟩
    have hu : h ≤ u := by
      refine Classical.byContradiction fun hc => h2 (.inl (by omega))
    have hset : cutG (setG (grOf E) k u) h = setG (grOf E) k u := by
      funext k'
      refine Option.ext fun v => ?_
      rw [cutG_some]
      constructor
      · exact fun h1 => h1.1
      · intro h1
        refine ⟨h1, ?_⟩
        by_cases e : k' = k
        · rw [e, setG_same] at h1; cases h1; exact hu
        · rw [setG_other e] at h1; exact hge _ _ h1
    rw [grOf_add]
    cases hg : grOf E k with
    | none => simp only; rw [hset]
    | some z =>
      simp only
      have hz : z < u := by
        refine Classical.byContradiction fun hc => h2 (.inr ⟨by rw [hg]; rfl, by rw [hg]; simp; omega⟩)
      rw [if_pos hz, hset]
end Go.Proofs.Ytiabmdboacpmcaa
/- ReachPlays. -/
namespace Go.Proofs.Ytiabmdboacpmcaa
open Go Go.RowKit Go.Sort Go.WideMaps Go.Maps
set_option maxHeartbeats 4000000

/-- what a forest and the document's edges are, while the law plays -/
structure PlaysS (t : Tr) (room : Int) (Lc : Loc) (G : Nat → Prop) (H : Nat) (ve : Value) (hz : Int) (E : List Ed) (F : Nat → Prop) (i : Nat) (w : World) : Prop where
  foz : FoZ t room hz (grOf E) Lc F G w
  own : ∀ b, F b → H ≤ b ∧ b < w.heap.size ∧ ve.ownBlock ≠ some b
  row : rowF elDr H E ve w
  nd : KeysNd E
  ge : ∀ e ∈ E, hz ≤ e.2
  right : ∀ e ∈ E, rightB e.1 e.2 = true ∧ ok3 e.1
  len : E.length ≤ i
theorem plays_ext {t : Tr} {room : Int} {Lc : Loc} {G : Nat → Prop} {H : Nat} {ve : Value} {hz : Int} {E : List Ed} {F : Nat → Prop} {i : Nat} {w w' : World} (h : PlaysS t room Lc G H ve hz E F i w) (hE : Ext w w') : PlaysS t room Lc G H ve hz E F i w' :=
  ⟨foZ_ext h.foz hE, fun b hb => by have := h.own b hb; exact ⟨this.1, by have := ext_size hE; omega, this.2.2⟩, rowF_ext _ _ _ hE h.row, h.nd, h.ge, h.right, h.len⟩
set_option maxRecDepth 100000 in
theorem plays_law (v va : Value) (L : List Nd) (LA : List AR) (room : Int) (w : World) (hv : RdNd w v L) (ha : RdAR w va LA) : Calls Try.prog 15 #[v, .int .i64 room, va] w fun e w' => e = .returned (.bool true) ∧ Ext w w' := by
  have HV := Lib.hid hv
  have HA := Lib.hid ha
  obtain ⟨A1, c1, rfl, hok1, -⟩ := ha
  obtain ⟨na, hna⟩ : ∃ n, n = LA.length := ⟨_, rfl⟩
  rw [← hna] at HA ⊢
  have HN := Lib.hid hna
  clear hv hna hok1
  go_enter Try.func15, Try.ntmps15
  go_wp2_with fail
  refine (awake11_any _).mono ?_
  rintro e w1 ⟨rfl, hE1⟩
  have HE1 := Lib.hid hE1
  clear hE1
  by_cases hbna : (14 : Int) < (na : Int)
  · go_wp2_with fail
    refine (awake11_any _).mono ?_
    rintro e w2 ⟨rfl, hE2⟩
    have HE2 := Lib.hid (ext_trans HE1.out hE2)
    clear hE2
    go_wp2
    refine bodyPost_ret (results_tmp rfl _ _ _) rfl ?_
    exact ⟨rfl, HE2.out⟩
  go_wp2_with fail
  refine (fix_any v L _ (rdNd_ext HV.out HE1.out)).mono ?_
  rintro e w2 ⟨L', v', rfl, hr, hF, hl, hE2⟩
  have HR := Lib.hid hr
  have HF := Lib.hid hF
  have HE2 := Lib.hid (ext_trans HE1.out hE2)
  have hl8 : L'.length ≤ 8 := by omega
  clear hr hF hE2 hl
  go_wp2_with fail
  refine (tree_fix 8 (by decide) (by decide) v' L' _ HR.out HF.out hl8).mono ?_
  rintro e w3 ⟨rb, n, t, k, z, A, q, c, rfl, hn, hfit, hlst, hpv, hE3⟩
  obtain ⟨hfb, hch, -⟩ := fit_chk hfit (by decide)
  have hsz : sizeT t ≤ 300 := by have := hfit.2.1; omega
  have HLS := Lib.hid hlst
  have HPV := Lib.hid hpv
  have HE3 := Lib.hid (ext_trans HE2.out hE3)
  clear hfit hlst hpv hE3 hfb hl8
  go_wp2_with fail
  have hE4 := ext_alloc (ext_refl w3) (.cells #[.int .i64 k, .int .i64 z, .slice A q c] 30)
  have hB4 := heap_alloc_new w3 (.cells #[.int .i64 k, .int .i64 z, .slice A q c] 30)
  obtain ⟨w4, hw4⟩ : ∃ w4, w4 = w3.alloc (.cells #[.int .i64 k, .int .i64 z, .slice A q c] 30) := ⟨_, rfl⟩
  obtain ⟨p6, hp6⟩ : ∃ p6, p6 = w3.heap.size := ⟨_, rfl⟩
  rw [← hw4] at hE4 hB4 ⊢
  rw [← hp6] at hB4 ⊢
  clear hw4
  have HB4 := Lib.hid hB4
  have HE4 := Lib.hid (ext_trans HE3.out hE4)
  have HL4 := Lib.hid (lst_ext HLS.out hE4)
  have HP4 := Lib.hid (PV_ext HPV.out hE4)
  clear hp6 hE4 hB4 HLS HPV HE3
  by_cases hz : chk t = 0
  · have HZ := Lib.hid hz
    have HFS := Lib.hid (chk_ok hz)
    clear hch
    by_cases hroom : room < 1 ∨ 10000 < room
    · refine (new_range t _ room w4 HP4.out hz hroom).mono ?_
      rintro e w5 ⟨rfl, hE5⟩
      have HL5 := Lib.hid (lst_ext HL4.out hE5)
      have HE5 := Lib.hid (ext_trans HE4.out hE5)
      have HRM := Lib.hid hroom
      clear hE5 hz hroom
      go_wp2_with fail
      refine (rcheck_any t rb n 0 _ (by omega) hn HL5.out).mono ?_
      rintro e w6 ⟨rfl, hE6⟩
      rw [HZ.out]
      have HE6 := Lib.hid (ext_trans HE5.out hE6)
      clear hE6
      by_cases hr1 : room < 1
      · have hd1 : decide (room < 1) = true := decide_eq_true hr1
        go_wp2
        refine bodyPost_ret (results_tmp rfl _ _ _) rfl ?_
        exact ⟨rfl, HE6.out⟩
      · have hd1 : decide (room < 1) = false := decide_eq_false hr1
        have hr2 : (10000 : Int) < room := by rcases HRM.out with h | h; exact absurd h hr1; exact h
        have hd2 : decide ((10000 : Int) < room) = true := decide_eq_true hr2
        go_wp2
        refine bodyPost_ret (results_tmp rfl _ _ _) rfl ?_
        exact ⟨rfl, HE6.out⟩
    · have hr1 : 1 ≤ room ∧ room ≤ 10000 := by omega
      refine (new_z t _ room w4 HP4.out hz hr1).mono ?_
      rintro e w5 ⟨Lc, rfl, hZ5, hE5⟩
      have HL5 := Lib.hid (lst_ext HL4.out hE5)
      have HE5 := Lib.hid hE5
      have HZ5 := Lib.hid hZ5
      clear hE5 hz hroom hZ5
      go_wp2_with fail
      refine (rcheck_any t rb n 0 _ (by omega) hn HL5.out).mono ?_
      rintro e w6 ⟨rfl, hE6⟩
      rw [HZ.out]
      obtain ⟨G, hG⟩ : ∃ G : Nat → Prop, G = fun b => w4.heap.size ≤ b ∧ b < w5.heap.size := ⟨_, rfl⟩
      have HZ6 := Lib.hid (show FoZ t room minI (grOf []) Lc G G w6 from by rw [hG]; exact foZ_ext HZ5.out hE6)
      have HF6 := Lib.hid (show ∀ b, G b → w4.heap.size ≤ b ∧ b < w6.heap.size from fun b hb => by rw [hG] at hb; have := ext_size hE6; omega)
      have HL6 := Lib.hid (lst_ext HL4.out (ext_refl w4))
      have HE6 := Lib.hid (ext_trans HE5.out hE6)
      have hna : LA.length ≤ 14 := by rw [← HN.out]; omega
      have hd1 : decide (room < 1) = false := decide_eq_false (by omega)
      have hd2 : decide ((10000 : Int) < room) = false := decide_eq_false (by omega)
      clear hG hE6
      go_wp2
      go_loopw [12, 13, 72] (fun y h x wr => ∃ (i : Nat) (ve : Value) (hz : Int) (E : List Ed) (F : Nat → Prop), i ≤ na ∧ x = .int .i64 (i : Int) ∧ ve = y ∧ h = .int .i64 hz ∧ PlaysS t room Lc G w4.heap.size ve hz E F i wr ∧ Ext w4 wr) (fun _ _ x _ => na - (intOf x).toNat)
      case atStart => exact ⟨0, _, minI, [], G, by omega, rfl, rfl, rfl, ⟨HZ6.out, fun b hb => ⟨(HF6.out b hb).1, (HF6.out b hb).2, fun e => by cases e⟩, rowF_nil _ _, List.nodup_nil, (fun e he => by cases he), (fun e he => by cases he), Nat.zero_le _⟩, HE6.out⟩
      case round =>
        rename World => wr
        obtain ⟨i, ve, hz, E, F, hi, rfl, rfl, rfl, hS, hE⟩ := hrel
        have HS := Lib.hid hS
        have HER := Lib.hid hE
        clear hS hE
        by_cases hlt : i < na
        · have hii : (i : Int) < (na : Int) := by omega
          have hi0 : (0 : Int) ≤ (i : Int) := by omega
          obtain ⟨A', c', hv', hoka, hrd⟩ := rdAR_ext HA.out (ext_trans HE4.out HER.out)
          simp only [Value.slice.injEq] at hv'
          obtain ⟨rfl, -, rfl⟩ := hv'
          obtain ⟨x, hx⟩ : ∃ x, LA[i]? = some x := ⟨_, List.getElem?_eq_getElem (by rw [← HN.out]; exact hlt)⟩
          obtain ⟨g, off, rfl, lg, hc⟩ := hrd (fun e => by rw [e] at hx; simp at hx)
          obtain ⟨c0', c1', c2', c3', c4'⟩ := hc i x hx
          have HOX := Lib.hid (hoka x (List.mem_of_getElem? hx))
          obtain ⟨kd, ⟨ka, kb, kc⟩, u⟩ := x
          simp only at c0' c1' c2' c3' c4'
          obtain ⟨W, hW⟩ : ∃ W, W = wr.alloc (.cells #[.int .u8 kd, .int .i64 ka, .int .i64 kb, .int .i64 kc, .int .i64 u] 82) := ⟨_, rfl⟩
          have hEW : Ext wr W := by rw [hW]; exact ext_alloc (ext_refl _) _
          obtain ⟨bx, hbx⟩ : ∃ b, b = wr.heap.size := ⟨_, rfl⟩
          have hBX : W.heap[bx]? = some (.cells #[.int .u8 kd, .int .i64 ka, .int .i64 kb, .int .i64 kc, .int .i64 u] 82 (0, 0)) := by rw [hW, hbx]; exact heap_alloc_new _ _
          have HW := Lib.hid (And.intro hW hbx)
          have HEW := Lib.hid hEW
          have HBX := Lib.hid hBX
          have HSW := Lib.hid (plays_ext HS.out hEW)
          have HEW4 := Lib.hid (ext_trans HER.out hEW)
          have hkk := HOX.out
          clear hc hx hrd hoka hW hEW hbx hBX
          obtain ⟨al, cl, hve⟩ := rowE_form HSW.out.row.1
          obtain ⟨ne, hne⟩ : ∃ n, n = E.length := ⟨_, rfl⟩
          rw [← hne] at hve
          have HNE := Lib.hid hne
          have hne14 : ne ≤ 14 := by have := HSW.out.len; omega
          clear hne hkk
          subst hve
          go_upto_if 79 with fail
          rw [← HW.out.1, ← HW.out.2]
          have x0 := block_cell HBX.out 0
          have x1 := block_cell HBX.out 1
          have x2 := block_cell HBX.out 2
          have x3 := block_cell HBX.out 3
          have x4 := block_cell HBX.out 4
          have lx := block_lt HBX.out
          go_cut [12, 13] (fun s12 s13 wx => (∃ (hz' : Int) (E' : List Ed) (F' : Nat → Prop) (ve' : Value), ve' = s12 ∧ s13 = .int .i64 hz' ∧ PlaysS t room Lc G w4.heap.size ve' hz' E' F' (i + 1) wx ∧ Ext w4 wx))
          case rest =>
            obtain ⟨hz', E', F', ve', hs12, hs13, hS', hE'⟩ := hcut
            subst hs12
            subst hs13
            obtain ⟨ar, cr, hve'⟩ := rowE_form hS'.row.1
            obtain ⟨nr, hnr⟩ : ∃ n, n = E'.length := ⟨_, rfl⟩
            rw [← hnr] at hve'
            have hnr14 : nr ≤ 14 := by have := hS'.len; omega
            subst hve'
            have HNR := Lib.hid hnr
            have HS' := Lib.hid hS'
            have HE' := Lib.hid hE'
            clear hS' hE' hnr x0 x1 x2 x3 x4 lx
            go_wp2_with fail
            refine (nodes_any _ E' wc HS'.out.row.1 (by rw [← HNR.out]; omega)).mono ?_
            rintro e w7 ⟨vn, rfl, hrn, hE7⟩
            obtain ⟨An, cn, hvn⟩ := rowE_form hrn.1
            obtain ⟨nn, hnn⟩ : ∃ n, n = (nodesL E').length := ⟨_, rfl⟩
            rw [← hnn] at hvn
            have hnn28 : nn ≤ 28 := by have := nodesL_len E'; have h5 := HNR.out; omega
            subst hvn
            have HNN := Lib.hid hnn
            have HE7 := Lib.hid hE7
            have hb7 := (ext_block (ext_trans HE'.out hE7) (block_lt HB4.out)).trans HB4.out
            have b0 := block_cell hb7 0
            have b1 := block_cell hb7 1
            have b2 := block_cell hb7 2
            have bl := block_lt hb7
            clear hrn hE7 hnn hb7
            go_wp2_with fail
            refine (compile_yes t _ w7 (PV_ext HP4.out (ext_trans HE'.out HE7.out)) HZ.out).mono ?_
            rintro e w8 ⟨pm, rfl, hM8, hE8⟩
            have HM8 := Lib.hid hM8
            have HE8 := Lib.hid (ext_trans HE7.out hE8)
            clear hM8 hE8 b0 b1 b2 bl
            go_wp2_with fail
            refine (pairs_z (foZ_ext HS'.out.foz HE8.out) HS'.out.nd (by rw [← HNR.out]; omega)).mono ?_
            rintro e w9 ⟨qb, NQ, p, rfl, hQ, hP, -, hE9⟩
            have HE9 := Lib.hid (ext_trans HE8.out hE9)
            have HMA := Lib.hid (mach_ext (machT_mach HM8.out) hE9)
            have HTOLD := Lib.hid (told_any t rb n E' _ p qb NQ w9 hQ hP (lst_ext HL6.out (ext_trans HE'.out HE9.out)) (rowE_ext HS'.out.row.1 HE9.out) HS'.out.nd (fun e he => ⟨(HS'.out.right e he).2, (rightB_iff.1 (HS'.out.right e he).1).2.2.2.2⟩) (by rw [← HNR.out]; omega) HFS.out.1 (Nat.le_trans HFS.out.2 (by omega)) hn)
            clear hQ hP hE9
            go_wp2_with fail
            refine HTOLD.out.mono ?_
            rintro e wa ⟨rfl, hEa⟩
            have HEA := Lib.hid (ext_trans HE9.out hEa)
            have HMB := Lib.hid (mach_ext HMA.out hEa)
            have HLEN := Lib.hid (len_z (foZ_ext HS'.out.foz HEA.out) HS'.out.nd)
            rw [← HNR.out] at HLEN
            have HSIZE := Lib.hid (size_z (foZ_ext HS'.out.foz HEA.out) HS'.out.nd)
            rw [← HNN.out] at HSIZE
            have HSTAT := Lib.hid (states_z _ wa pm _ _ _ _ HMB.out)
            obtain ⟨mm, hmm⟩ : ∃ m, m = (gen t 1 0).many := ⟨_, rfl⟩
            rw [← hmm] at HSIZE HSTAT
            have hmm1 : mm ≤ 1000 := by rw [hmm]; exact HMB.out.hm
            clear hEa hmm
            go_wp2_with fail
            refine HLEN.out.mono ?_
            rintro e wb ⟨rfl, hwb⟩
            have hwb' := hwb.symm
            subst hwb'
            clear hwb
            go_wp2_with fail
            refine HSIZE.out.mono ?_
            rintro e wb ⟨NS, rfl, hNS, hwb⟩
            have hwb' := hwb.symm
            subst hwb'
            clear hwb
            have hNSi : ¬ ((mm : Int) * (nn : Int) * (nn : Int) < (NS : Int)) := by
              have h5 : (NS : Int) ≤ ((nn * (nn * mm) : Nat) : Int) := by exact_mod_cast hNS
              have h6 : ((nn * (nn * mm) : Nat) : Int) = (mm : Int) * (nn : Int) * (nn : Int) := by push_cast; rw [Int.mul_comm (nn : Int) ((nn : Int) * (mm : Int)), Int.mul_comm (nn : Int) (mm : Int)]
              omega
            have hm1 : mm * nn ≤ 1000 * 28 := Nat.mul_le_mul hmm1 hnn28
            have hm2 : mm * nn * nn ≤ 1000 * 28 * 28 := Nat.mul_le_mul hm1 hnn28
            have hw1 : IntKind.i64.wrap ((mm : Int) * (nn : Int)) = (mm : Int) * (nn : Int) := IntWalk.i64_in _ (by have h5 : (mm : Int) * (nn : Int) = ((mm * nn : Nat) : Int) := by push_cast; rfl
                                                                                                                    omega)
            have hw2 : IntKind.i64.wrap ((mm : Int) * (nn : Int) * (nn : Int)) = (mm : Int) * (nn : Int) * (nn : Int) := IntWalk.i64_in _ (by have h5 : (mm : Int) * (nn : Int) * (nn : Int) = ((mm * nn * nn : Nat) : Int) := by push_cast; rfl
                                                                                                                                              omega)
            have hdN : decide ((mm : Int) * (nn : Int) * (nn : Int) < (NS : Int)) = false := decide_eq_false hNSi
            clear hNS hm1 hm2
            go_wp2_with fail
            refine HSTAT.out.mono ?_
            rintro e wb ⟨rfl, hwb⟩
            have hwb' := hwb.symm
            subst hwb'
            clear hwb
            have HFIN := Lib.hid (plays_ext HS'.out HEA.out)
            have HFE := Lib.hid (ext_trans HE'.out HEA.out)
            go_wp2
            go_roundw
            case rel => exact ⟨i + 1, _, hz', E', F', by omega, by go_num, rfl, rfl, HFIN.out, HFE.out⟩
            case measure => simp [intOf]; omega
          case first =>
            go_wp2_with fail
            · skip
              refine (refexp_any _ E (max hz u) W HSW.out.row.1 (by rw [← HNE.out]; omega)).mono ?_
              rintro e w7 ⟨vl, rfl, hrl, hE7⟩
              obtain ⟨hz', hhz⟩ : ∃ h, h = max hz u := ⟨_, rfl⟩
              rw [← hhz] at hrl ⊢
              obtain ⟨al2, cl2, hvl⟩ := rowE_form hrl.1
              obtain ⟨nl, hnl'⟩ : ∃ n, n = (expL E hz').length := ⟨_, rfl⟩
              rw [← hnl'] at hvl
              have hnll : nl ≤ ne := by rw [hnl', HNE.out]; exact expL_len _ _
              subst hvl
              have HEX := Lib.hid (exp_z u (foZ_ext HSW.out.foz hE7) HSW.out.nd (fun e he => (rightB_iff.1 (HSW.out.right e he).1).2.2.2.2) (by rw [← HNE.out]; omega))
              rw [← hhz, ← hnl', ← HNE.out] at HEX
              have HRL := Lib.hid hrl
              have HE7 := Lib.hid hE7
              have HNL := Lib.hid hnl'
              have HHZ := Lib.hid hhz
              have hb7 := (ext_block hE7 (block_lt HBX.out)).trans HBX.out
              have hsub : IntKind.i64.wrap ((ne : Int) - (nl : Int)) = (ne : Int) - (nl : Int) := IntWalk.i64_in _ (by omega)
              clear x0 x1 x2 x3 x4 lx hrl hE7 hnl' hhz
              have x0 := block_cell hb7 0
              have x1 := block_cell hb7 1
              have x2 := block_cell hb7 2
              have x3 := block_cell hb7 3
              have x4 := block_cell hb7 4
              have lx := block_lt hb7
              clear hb7
              go_wp2_with fail
              refine HEX.out.mono ?_
              rintro e w8 ⟨rfl, hZ8, hU8⟩
              have HNEW := Lib.hid (show PlaysS t room Lc G w4.heap.size (.slice al2 nl cl2) hz' (expL E hz') F (i + 1) w8 from by
                have hs8 := hU8.size
                have hs7 := ext_size HE7.out
                have hsW := ext_size HEW4.out
                have hnF : ∀ b, (Value.slice al2 nl cl2).ownBlock = some b → ¬ F b := fun b hb hf => by
                  have h5 := HRL.out.2 b hb
                  have h6 := (HSW.out.own b hf).2.1
                  omega
                refine ⟨hZ8, fun b hb => ⟨(HSW.out.own b hb).1, by have := (HSW.out.own b hb).2.1; omega, fun e => hnF b e hb⟩, ⟨rowE_upd HRL.out.1 hU8 hnF, fun b hb => by have := HRL.out.2 b hb; omega⟩, expL_nd HSW.out.nd, fun e he => ?_, fun e he => HSW.out.right e (List.mem_filter.1 (show e ∈ E.filter _ from he)).1, ?_⟩
                · exact of_decide_eq_true (List.mem_filter.1 (show e ∈ E.filter _ from he)).2
                · have h5 := expL_len E hz'
                  have h6 := HSW.out.len
                  omega)
              have HEN := Lib.hid (show Ext w4 w8 from ext_of_upd (upd_trans (upd_of_ext (ext_trans HEW4.out HE7.out)) hU8 (fun b hb hf => absurd hb (by have := (HSW.out.own b hf).1; omega))))
              clear hZ8 hU8
              go_wp2
              go_meet
              exact ⟨hz', _, F, _, rfl, rfl, HNEW.out, HEN.out⟩
            · skip
              have hadd := addg_z (k := ⟨ka, kb, kc⟩) (u := u) HSW.out.foz HSW.out.nd (by rw [← HNE.out]; omega) HOX.out.1 HOX.out.2
              refine hadd.mono ?_
              rintro e w7 ⟨rfl, hZ7, hU7⟩
              obtain ⟨cd, hcd⟩ : ∃ c, c = addC (grOf E) room E.length ⟨ka, kb, kc⟩ u := ⟨_, rfl⟩
              rw [← hcd]
              have HCD := Lib.hid hcd
              have HZ7 := Lib.hid hZ7
              have HU7 := Lib.hid hU7
              have hnx : ¬ F bx := fun hf => by
                have h5 := (HS.out.own bx hf).2.1
                have h6 := HW.out.2
                omega
              have hb7 := (hU7.block bx (block_lt HBX.out) hnx).trans HBX.out
              have HB7 := Lib.hid hb7
              have hrow7 := rowE_upd HSW.out.row.1 hU7 (fun b hb hf => (HSW.out.own b hf).2.2 hb)
              have HROW7 := Lib.hid hrow7
              have HE47 := Lib.hid (show Ext w4 w7 from ext_of_upd (upd_trans (upd_of_ext HEW4.out) hU7 (fun b hb hf => absurd hb (by have := (HSW.out.own b hf).1; omega))))
              have HST := Lib.hid (show addG (grOf E) hz room E.length ⟨ka, kb, kc⟩ u = grOf E → PlaysS t room Lc G w4.heap.size (.slice al ne cl) hz E (fun b => F b ∨ (W.heap.size ≤ b ∧ b < w7.heap.size)) (i + 1) w7 from fun hg => by
                have hs7 := hU7.size
                have hsW := ext_size HEW4.out
                rw [hg] at hZ7
                refine ⟨hZ7, fun b hb => ?_, ⟨hrow7, HSW.out.row.2⟩, HSW.out.nd, HSW.out.ge, HSW.out.right, by have := HSW.out.len; omega⟩
                rcases hb with hb | hb
                · obtain ⟨h5, h6, h7⟩ := HSW.out.own b hb
                  exact ⟨h5, by omega, h7⟩
                · exact ⟨by omega, hb.2, fun e => by have := (rowE_block HSW.out.row.1 e).1; omega⟩)
              clear hadd hcd hZ7 hU7 hnx hrow7 x0 x1 x2 x3 x4 lx
              have x0 := block_cell hb7 0
              have x1 := block_cell hb7 1
              have x2 := block_cell hb7 2
              have x3 := block_cell hb7 3
              have x4 := block_cell hb7 4
              have lx := block_lt hb7
              clear hb7
              by_cases hrt : rightB ⟨ka, kb, kc⟩ u = true
              · have HRT := Lib.hid hrt
                obtain ⟨h1, h2, h3, h4, h5⟩ := rightB_iff.1 hrt
                simp only at h1 h2 h3
                unfold forever at h5
                have d1 : decide (ka < 0) = false := decide_eq_false (by omega)
                have d2 : decide (kb < 0) = false := decide_eq_false (by omega)
                have d3 : decide (kc < 0) = false := decide_eq_false (by omega)
                have d4 : decide (u < -2305843009213693952) = false := decide_eq_false (by omega)
                have d5 : decide (4611686018427387904 < u) = false := decide_eq_false (by omega)
                clear hrt
                go_wp2_with fail
                refine (find_z _ E ⟨ka, kb, kc⟩ w7 HROW7.out (by rw [← HNE.out]; omega)).mono ?_
                rintro e w8 ⟨rfl, hE8⟩
                have HE8 := Lib.hid hE8
                have HROW8 := Lib.hid (rowE_ext HROW7.out hE8)
                have HE78 := Lib.hid (ext_trans HE47.out hE8)
                have hb8 := (ext_block hE8 (block_lt HB7.out)).trans HB7.out
                clear hE8 x0 x1 x2 x3 x4 lx
                have x0 := block_cell hb8 0
                have x1 := block_cell hb8 1
                have x2 := block_cell hb8 2
                have x3 := block_cell hb8 3
                have x4 := block_cell hb8 4
                have lx := block_lt hb8
                clear hb8
                by_cases hm : (⟨ka, kb, kc⟩ : Key) ∈ E.map (·.1)
                · rw [decide_eq_true hm]
                  have HNF := Lib.hid (show ¬ ((grOf E ⟨ka, kb, kc⟩).isSome = false ∧ room ≤ (E.length : Int)) from fun hc => by
                    rw [grOf_isSome.2 hm] at hc
                    exact absurd hc.1 (by decide))
                  clear hm
                  have HD := Lib.hid (add_doc (room := room) HSW.out.nd HSW.out.ge HRT.out HNF.out)
                  have hcd0 : cd = 0 := HCD.out.trans HD.out.1
                  subst hcd0
                  go_wp2_with fail
                  refine (refadd_any _ E ⟨ka, kb, kc⟩ u w8 HROW8.out (by rw [← HNE.out]; omega)).mono ?_
                  rintro e w9 ⟨v9, rfl, hr9, hE9⟩
                  have HR9 := Lib.hid hr9
                  have HE9 := Lib.hid hE9
                  clear hr9 hE9 x0 x1 x2 x3 x4 lx
                  go_wp2_with fail
                  refine (refexp_any v9 (addL E ⟨ka, kb, kc⟩ u) hz w9 HR9.out.1 (by have := addL_len E ⟨ka, kb, kc⟩ u; have h5 := HNE.out; omega)).mono ?_
                  rintro e w10 ⟨v10, rfl, hr10, hE10⟩
                  have HNEW := Lib.hid (show PlaysS t room Lc G w4.heap.size v10 hz (expL (addL E ⟨ka, kb, kc⟩ u) hz) (fun b => F b ∨ (W.heap.size ≤ b ∧ b < w7.heap.size)) (i + 1) w10 from by
                    have hs8 := ext_size HE8.out
                    have hs9 := ext_size HE9.out
                    have hs10 := ext_size hE10
                    have hsW := ext_size HEW4.out
                    have hs7 := HU7.out.size
                    refine ⟨by rw [← HD.out.2]; exact foZ_ext HZ7.out (ext_trans HE8.out (ext_trans HE9.out hE10)), fun b hb => ?_, rowF_low hr10 (by omega), expL_nd (addL_nd HSW.out.nd), fun e he => ?_, fun e he => ?_, ?_⟩
                    · have hbl : w4.heap.size ≤ b ∧ b < w7.heap.size := by
                        rcases hb with hb | hb
                        · have := HSW.out.own b hb; omega
                        · omega
                      exact ⟨hbl.1, by omega, fun e => by have := hr10.2 b e; omega⟩
                    · exact of_decide_eq_true (List.mem_filter.1 (show e ∈ (addL E ⟨ka, kb, kc⟩ u).filter _ from he)).2
                    · rcases addL_mem (List.mem_filter.1 (show e ∈ (addL E ⟨ka, kb, kc⟩ u).filter _ from he)).1 with h5 | ⟨h5, h6⟩
                      · exact HSW.out.right e h5
                      · rw [h5, h6]; exact ⟨HRT.out, HOX.out.1⟩
                    · have h5 := expL_len (addL E ⟨ka, kb, kc⟩ u) hz
                      have h6 := addL_len E ⟨ka, kb, kc⟩ u
                      have h7 := HSW.out.len
                      omega)
                  have HEN := Lib.hid (ext_trans HE78.out (ext_trans HE9.out hE10))
                  clear hr10 hE10
                  go_wp2
                  go_meet
                  exact ⟨hz, _, _, v10, rfl, rfl, HNEW.out, HEN.out⟩
                · rw [decide_eq_false hm]
                  have hsn : (grOf E ⟨ka, kb, kc⟩).isSome = false := by
                    cases h6 : (grOf E ⟨ka, kb, kc⟩).isSome with
                    | false => rfl
                    | true => exact absurd (grOf_isSome.1 h6) hm
                  by_cases hfull : room ≤ (ne : Int)
                  · have HFL := Lib.hid (add_full (E := grOf E) (h := hz) (room := room) (N := E.length) HRT.out ⟨hsn, by rw [← HNE.out]; exact hfull⟩)
                    have hcd6 : cd = 6 := HCD.out.trans HFL.out.1
                    subst hcd6
                    have hge : decide (room ≤ (ne : Int)) = true := decide_eq_true hfull
                    have HSAME := Lib.hid (show PlaysS t room Lc G w4.heap.size (.slice al ne cl) hz E (fun b => F b ∨ (W.heap.size ≤ b ∧ b < w7.heap.size)) (i + 1) w8 ∧ Ext w4 w8 from ⟨plays_ext (HST.out HFL.out.2) HE8.out, HE78.out⟩)
                    clear hm hsn
                    go_wp2
                    go_meet
                    exact ⟨hz, E, _, .slice al ne cl, rfl, rfl, HSAME.out.1, HSAME.out.2⟩
                  · have HNF := Lib.hid (show ¬ ((grOf E ⟨ka, kb, kc⟩).isSome = false ∧ room ≤ (E.length : Int)) from fun hc => hfull (by rw [HNE.out]; exact hc.2))
                    have hge : decide (room ≤ (ne : Int)) = false := decide_eq_false hfull
                    clear hm hsn
                    have HD := Lib.hid (add_doc (room := room) HSW.out.nd HSW.out.ge HRT.out HNF.out)
                    have hcd0 : cd = 0 := HCD.out.trans HD.out.1
                    subst hcd0
                    go_wp2_with fail
                    refine (refadd_any _ E ⟨ka, kb, kc⟩ u w8 HROW8.out (by rw [← HNE.out]; omega)).mono ?_
                    rintro e w9 ⟨v9, rfl, hr9, hE9⟩
                    have HR9 := Lib.hid hr9
                    have HE9 := Lib.hid hE9
                    clear hr9 hE9 x0 x1 x2 x3 x4 lx
                    go_wp2_with fail
                    refine (refexp_any v9 (addL E ⟨ka, kb, kc⟩ u) hz w9 HR9.out.1 (by have := addL_len E ⟨ka, kb, kc⟩ u; have h5 := HNE.out; omega)).mono ?_
                    rintro e w10 ⟨v10, rfl, hr10, hE10⟩
                    have HNEW := Lib.hid (show PlaysS t room Lc G w4.heap.size v10 hz (expL (addL E ⟨ka, kb, kc⟩ u) hz) (fun b => F b ∨ (W.heap.size ≤ b ∧ b < w7.heap.size)) (i + 1) w10 from by
                      have hs8 := ext_size HE8.out
                      have hs9 := ext_size HE9.out
                      have hs10 := ext_size hE10
                      have hsW := ext_size HEW4.out
                      have hs7 := HU7.out.size
                      refine ⟨by rw [← HD.out.2]; exact foZ_ext HZ7.out (ext_trans HE8.out (ext_trans HE9.out hE10)), fun b hb => ?_, rowF_low hr10 (by omega), expL_nd (addL_nd HSW.out.nd), fun e he => ?_, fun e he => ?_, ?_⟩
                      · have hbl : w4.heap.size ≤ b ∧ b < w7.heap.size := by
                          rcases hb with hb | hb
                          · have := HSW.out.own b hb; omega
                          · omega
                        exact ⟨hbl.1, by omega, fun e => by have := hr10.2 b e; omega⟩
                      · exact of_decide_eq_true (List.mem_filter.1 (show e ∈ (addL E ⟨ka, kb, kc⟩ u).filter _ from he)).2
                      · rcases addL_mem (List.mem_filter.1 (show e ∈ (addL E ⟨ka, kb, kc⟩ u).filter _ from he)).1 with h5 | ⟨h5, h6⟩
                        · exact HSW.out.right e h5
                        · rw [h5, h6]; exact ⟨HRT.out, HOX.out.1⟩
                      · have h5 := expL_len (addL E ⟨ka, kb, kc⟩ u) hz
                        have h6 := addL_len E ⟨ka, kb, kc⟩ u
                        have h7 := HSW.out.len
                        omega)
                    have HEN := Lib.hid (ext_trans HE78.out (ext_trans HE9.out hE10))
                    clear hr10 hE10
                    go_wp2
                    go_meet
                    exact ⟨hz, _, _, v10, rfl, rfl, HNEW.out, HEN.out⟩
              · have HNR := Lib.hid (show rightB ⟨ka, kb, kc⟩ u = false by simpa using hrt)
                clear hrt
                have HBD := Lib.hid (add_bad (E := grOf E) (h := hz) (room := room) (N := E.length) HNR.out)
                have hcd2 : cd = 2 := HCD.out.trans HBD.out.1
                subst hcd2
                have HSAME := Lib.hid (show PlaysS t room Lc G w4.heap.size (.slice al ne cl) hz E (fun b => F b ∨ (W.heap.size ≤ b ∧ b < w7.heap.size)) (i + 1) w7 ∧ Ext w4 w7 from ⟨HST.out HBD.out.2, HE47.out⟩)
                by_cases h1 : ka < 0
                · have d1 : decide (ka < 0) = true := decide_eq_true h1
                  go_wp2
                  go_meet
                  exact ⟨hz, E, _, .slice al ne cl, rfl, rfl, HSAME.out.1, HSAME.out.2⟩
                · have d1 : decide (ka < 0) = false := decide_eq_false h1
                  by_cases h2 : kb < 0
                  · have d2 : decide (kb < 0) = true := decide_eq_true h2
                    go_wp2
                    go_meet
                    exact ⟨hz, E, _, .slice al ne cl, rfl, rfl, HSAME.out.1, HSAME.out.2⟩
                  · have d2 : decide (kb < 0) = false := decide_eq_false h2
                    by_cases h3 : kc < 0
                    · have d3 : decide (kc < 0) = true := decide_eq_true h3
                      go_wp2
                      go_meet
                      exact ⟨hz, E, _, .slice al ne cl, rfl, rfl, HSAME.out.1, HSAME.out.2⟩
                    · have d3 : decide (kc < 0) = false := decide_eq_false h3
                      by_cases h4 : u < -2305843009213693952
                      · have d4 : decide (u < -2305843009213693952) = true := decide_eq_true h4
                        go_wp2
                        go_meet
                        exact ⟨hz, E, _, .slice al ne cl, rfl, rfl, HSAME.out.1, HSAME.out.2⟩
                      · have d4 : decide (u < -2305843009213693952) = false := decide_eq_false h4
                        have h5 : 4611686018427387904 < u := by
                          refine Classical.byContradiction fun hc => ?_
                          have h6 := rightB_iff.2 (show 0 ≤ (⟨ka, kb, kc⟩ : Key).a ∧ 0 ≤ (⟨ka, kb, kc⟩ : Key).b ∧ 0 ≤ (⟨ka, kb, kc⟩ : Key).c ∧ -2305843009213693952 ≤ u ∧ u ≤ forever from ⟨by show 0 ≤ ka; omega, by show 0 ≤ kb; omega, by show 0 ≤ kc; omega, by omega, by unfold forever; omega⟩)
                          rw [HNR.out] at h6
                          cases h6
                        have d5 : decide (4611686018427387904 < u) = true := decide_eq_true h5
                        go_wp2
                        go_meet
                        exact ⟨hz, E, _, .slice al ne cl, rfl, rfl, HSAME.out.1, HSAME.out.2⟩
        · have hnl : ¬ (i : Int) < (na : Int) := by omega
          go_wp2
          refine bodyPost_ret (results_tmp rfl _ _ _) rfl ?_
          exact ⟨rfl, ext_trans HE4.out HER.out⟩
  · have HZ := Lib.hid hz
    obtain ⟨c, hc⟩ : ∃ c, c = chk t := ⟨_, rfl⟩
    have hcz : ¬ c = 0 := by rw [hc]; exact hz
    refine (new_code t _ room w4 HP4.out (by omega) hz).mono ?_
    rintro e w5 ⟨rfl, hE5⟩
    rw [← hc]
    have HC := Lib.hid hc
    have HL5 := Lib.hid (lst_ext HL4.out hE5)
    have HE5 := Lib.hid (ext_trans HE4.out hE5)
    clear hE5 hz hch hc
    go_wp2_with fail
    refine (rcheck_any t rb n 0 _ (by omega) hn HL5.out).mono ?_
    rintro e w6 ⟨rfl, hE6⟩
    rw [← HC.out]
    have HE6 := Lib.hid (ext_trans HE5.out hE6)
    have hcb : (c != 0) = true := by simp [hcz]
    have hcc : (c == c) = true := by simp
    clear hE6
    go_wp2
    refine bodyPost_ret (results_tmp rfl _ _ _) rfl ?_
    exact ⟨rfl, HE6.out⟩
end Go.Proofs.Ytiabmdboacpmcaa
/- ReachPlays: whatever is added and expires, what is told is the document's, of the edges that are there; no more is kept than may be. No condition. -/
namespace Go.Proofs.Ytiabmdboacpmcaa
open Go.ChangeShapes Go.WideShapes Go.ChangeAt Go.WideMaps Go.WideElems Go.RowKit

set_option maxRecDepth 100000 in
theorem plays_lifted (os : Os) (started : os.Started) (H : Type) (enc : TypeId × Value → H) :
    ReturnsInHanded {} Try.checked os 15 .any (Rows.reachPlaysSpec.pre6 enc Try.prog Try.f15 Rows.reachPlaysRow.domain false) (Rows.reachPlaysSpec.post enc Try.prog Try.f15 false true false false) := by
  refine returnsInHanded_of_change_sized (C := Try.checked) own started (by kernel_rfl) Try.func15
    (ChangeSpec.witness6 (enc := enc) (C := Try.checked) false ⟨#[], #[.slice none 0 0, .int .i64 0, .slice none 0 0], []⟩ 8 (by kernel_rfl) (by kernel_rfl) (by kernel_rfl) (by kernel_rfl)) ?_
  intro W base args ds gs before hval0 hW _ hsz0 _
  clear hsz0
  have hval : ∀ (j : Nat) t v, Try.f15.params[j]? = some t → args[j]? = some v → Value.okWide Try.prog W .any base t v := hval0
  have hW' := hW
  obtain ⟨p, q, hA0, hV, rfl, hfz, hnd⟩ := hW
  have hA : DataW.TrodAll enc Try.prog W 0 (fun _ => true) true Try.f15.params.toList args.toList ds p := hA0
  rw [Try.params15] at hA hval
  obtain ⟨v0, vs0, d0, ds0, p0, q0, hargs, rfl, rfl, h0, r0⟩ := trodAll_cons hA
  obtain ⟨v1, vs1, d1, ds1, p1, q1, rfl, rfl, rfl, h1, r1⟩ := trodAll_cons r0
  obtain ⟨v2, vs2, d2, ds2, p2, q2, rfl, rfl, rfl, h2, r2⟩ := trodAll_cons r1
  obtain ⟨rfl, rfl, rfl⟩ := trodAll_nil r2
  obtain rfl : args = #[v0, v1, v2] := by cases args; simp_all
  obtain ⟨rfl, rfl⟩ := trodVars_none hV
  have lt0 : ∀ x ∈ p0, x.block < W.heap.size := by obtain ⟨m, hm⟩ := h0; exact DataW.trod_lt m _ _ _ hm
  obtain ⟨L0, ha0, hl0⟩ := open_nodes (hval 0 22 v0 rfl rfl) h0
  obtain ⟨o1, rfl, rfl, rfl, w1⟩ := open_int Try.underlying3 (hval 1 3 v1 rfl rfl) h1
  have lt2 : ∀ x ∈ p2, x.block < W.heap.size := by obtain ⟨m, hm⟩ := h2; exact DataW.trod_lt m _ _ _ hm
  obtain ⟨L2, ha2⟩ := open_acts (hval 2 60 v2 rfl rfl) h2
  clear hA0 hval0
  refine (plays_law v0 v2 L0 L2 o1 W ha0 ha2).mono fun e W' ⟨he, bel⟩ => ?_
  subst he
  have bel : Below W.heap.size W W' := bel
  exact ⟨_, rfl, _, _, _, [], _, [], hW', trodAll_mk1 (shut_bool Try.underlying4 _), (trodAll_cons_mk (Below.trod laidOut (by kernel_rfl) (of_decide_eq_true (by kernel_rfl)) h0 bel lt0) (trodAll_cons_mk (shut_int Try.underlying3 w1) (trodAll_cons_mk (Below.trod laidOut (by kernel_rfl) (of_decide_eq_true (by kernel_rfl)) h2 bel lt2) trodAll_mk0))), rfl, bel.frame _, fun h => by cases h⟩

theorem plays_holds : Rows.ReachPlaysSaid :=
  OpenClaim.holds_of_wide 15 Try.f15 rfl rfl rfl rfl rfl rfl rfl ⟨rfl, rfl, rfl, rfl, rfl⟩ rfl rfl rfl rfl rfl (by kernel_rfl) Try.func15 (by kernel_rfl)
    (of_decide_eq_true (by kernel_rfl)) (by unfold Func.isWrapper; first | (rw [if_pos (by decide +kernel)]; kernel_rfl) | (rw [if_neg (by decide +kernel)]; exact ⟨rfl, rfl⟩))
    (fun os started H enc _ => plays_lifted os started H enc)
#print axioms plays_holds
end Go.Proofs.Ytiabmdboacpmcaa
