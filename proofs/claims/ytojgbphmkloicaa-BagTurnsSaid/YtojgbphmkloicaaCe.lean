/- Content: what it adds up. -/
import Derived.Test.YtojgbphmkloicaaBt
import Derived.Test.YtojgbphmkloicaaCc
import Derived.Test.YtojgbphmkloicaaCd
import Derived.Test.YtojgbphmkloicaaGd
import Derived.Test.YtojgbphmkloicaaKe
import Derived.Maps.RangeWalk
namespace Go.Proofs.Ytojgbphmkloicaa
open Go Go.RowKit Go.Sort
set_option maxHeartbeats 4000000

def elN : El (Key × Nat) := ⟨fun p => [.int .i64 p.1.a, .int .i64 p.1.b, .int .i64 p.1.c, .int .i64 (p.2 : Int)], 4, 38, by decide, fun _ => rfl, fun x u hu => by
  rcases List.mem_cons.1 hu with rfl | hu
  · rfl
  · rcases List.mem_cons.1 hu with rfl | hu
    · rfl
    · rcases List.mem_cons.1 hu with rfl | hu
      · rfl
      · rw [List.mem_singleton.1 hu]; rfl⟩
noncomputable def tpN : Tp Try.prog 32 elN := ⟨(Try.prog.info? 38).get (by kernel_rfl), .agg #[.int .i64 0, .int .i64 0, .int .i64 0, .int .i64 0], 32, Try.underlying32, by kernel_rfl, by kernel_rfl, by kernel_rfl, by kernel_rfl, rfl, by decide⟩
theorem while_at {w : World} {pb : Nat} {room : Int} {bs : List Bk} {ps : List (Nat × Nat)} {v : Value} {F : Nat → Prop} (h : BagAt w pb room bs ps v F) (o c : Int) : (((ps.map (·.1)).take (max (idxB bs o) (idxB bs c))).drop (idxB bs o)).length = (whileB bs o c).length ∧
    ∀ j, j < (whileB bs o c).length → ∃ p m t ks, (((ps.map (·.1)).take (max (idxB bs o) (idxB bs c))).drop (idxB bs o))[j]? = some p ∧ (whileB bs o c)[j]? = some (t, ks) ∧ (p, m) ∈ ps ∧ BkAt w p m (t, ks) := by
  refine ⟨by simp [whileB, h.len], fun j hj => ?_⟩
  unfold whileB at hj
  have hj2 : idxB bs o + j < max (idxB bs o) (idxB bs c) ∧ idxB bs o + j < bs.length := by
    rw [List.length_drop, List.length_take] at hj
    omega
  obtain ⟨t, ks, hb⟩ : ∃ t ks, bs[idxB bs o + j]? = some (t, ks) := ⟨_, _, List.getElem?_eq_getElem hj2.2⟩
  obtain ⟨p, m, h1, h2, h3⟩ := bag_at h hb
  refine ⟨p, m, t, ks, ?_, ?_, List.mem_of_getElem? h1, h2⟩
  · rw [List.getElem?_drop, List.getElem?_take, if_pos hj2.1]
    exact h3
  · unfold whileB
    rw [List.getElem?_drop, List.getElem?_take, if_pos hj2.1]
    exact hb
theorem content_any (pb : Nat) (room : Int) (E : List Ev) (F : Nat → Prop) (o c : Int) (w : World) (h : BagM w pb room E F) (hm : E.length ≤ 100000) :
    Calls Try.prog 9 #[ptr pb, .agg #[.int .i64 o, .int .i64 c]] w fun e w' => ∃ v L, e = .returned v ∧ Cont E o c L ∧ rowF elN w.heap.size L v w' ∧ Ext w w' := by
  obtain ⟨bs, ps, v, hA, hP, hNe⟩ := h
  have hlen : lenB bs = E.length := by rw [lenB_flat, hP.length_eq]
  have hbl : bs.length ≤ 100000 := by have := len_le_lenB hNe; omega
  obtain ⟨W0, hW0⟩ : ∃ W, W = (w.alloc (.cells #[.int .i64 o, .int .i64 c] 35)).alloc (.map #[] 0) := ⟨_, rfl⟩
  obtain ⟨mA, hmA⟩ : ∃ b, b = w.heap.size + 1 := ⟨_, rfl⟩
  have hE0 : Ext w W0 := by rw [hW0]; exact ext_alloc (ext_alloc (ext_refl _) _) _
  have HX := Lib.hid (show W0.heap[w.heap.size]? = some (.cells #[.int .i64 o, .int .i64 c] 35 (0, 0)) by
    rw [hW0]
    exact (ext_block (ext_alloc (ext_refl _) _) (by simp)).trans (heap_alloc_new w _))
  have HMA := Lib.hid (show MapC mA 0 (fun _ => none) W0 by
    rw [hW0, hmA]
    have h5 := mapG_made ktK etI (w.alloc (.cells #[.int .i64 o, .int .i64 c] 35))
    rw [World.size_alloc] at h5
    exact h5)
  have HE0 := Lib.hid hE0
  have HP := Lib.hid hP
  have HA := Lib.hid (bagAt_ext hA hE0)
  have HMW := Lib.hid (show w.heap.size ≤ mA by omega)
  have CI := Lib.hid (fun w' (hE : Ext W0 w') => in_any pb room bs ps v F o c w' (bagAt_ext (bagAt_ext hA hE0) hE) (by omega))
  have x0 := block_cell HX.out 0
  have x1 := block_cell HX.out 1
  have lx := block_lt HX.out
  have HLEN := Lib.hid hlen
  have HLT := Lib.hid (bagAt_lt hA)
  clear hA hP hNe hE0 hlen
  have hmm := @run_makeMap Try.prog
  go_enter Try.func9, Try.ntmps9
  go_wp2_with fail
  rw [← hmA, ← hW0]
  clear hW0 hmA hmm
  refine (CI.out _ (ext_refl _)).mono ?_
  rintro e w1 ⟨v', rfl, hRd, hE1⟩
  have HE1 := Lib.hid hE1
  obtain ⟨Q, hQ⟩ : ∃ Q, Q = ((ps.map (·.1)).take (max (idxB bs o) (idxB bs c))).drop (idxB bs o) := ⟨_, rfl⟩
  rw [← hQ] at hRd
  obtain ⟨Av, cv, rfl, hrd⟩ := hRd
  have HRD := Lib.hid hrd
  have HQ := Lib.hid hQ
  obtain ⟨n, hn⟩ : ∃ n, n = Q.length := ⟨_, rfl⟩
  rw [← hn]
  have HN := Lib.hid hn
  clear hE1 hQ hrd hn x0 x1 lx
  obtain ⟨hWl, hWa⟩ := while_at (bagAt_ext HA.out HE1.out) o c
  obtain ⟨L, hL⟩ : ∃ L, L = whileB bs o c := ⟨_, rfl⟩
  rw [← HQ.out, ← hL] at hWl hWa
  rw [← HN.out] at hWl
  have HWA := Lib.hid hWa
  have HWL := Lib.hid hWl
  have HL := Lib.hid hL
  have hnb : n ≤ 100000 := by
    rw [hWl, hL]
    have h5 : (whileB bs o c).length ≤ bs.length := by
      unfold whileB
      rw [List.length_drop, List.length_take]
      omega
    omega
  have HMA1 := Lib.hid (mapG_ext HMA.out HE1.out)
  clear hWa hL hWl
  go_wp2
  go_loopw [19] (fun x wr => ∃ j : Nat, j ≤ n ∧ x = .int .i64 (j : Int) ∧ (∃ N, MapC mA N (fun k => optN (accW L j k)) wr) ∧ Upd (fun b => b = mA) w1 wr) (fun x _ => n - (intOf x).toNat)
  case atStart => exact ⟨0, by omega, rfl, ⟨0, mapG_congr HMA1.out (fun x => rfl) rfl⟩, upd_refl⟩
  case round =>
    obtain ⟨j, hj, rfl, hMj, hUj⟩ := hrel
    have HMJ := Lib.hid hMj
    have HUJ := Lib.hid hUj
    clear hMj hUj
    by_cases hlt : j < n
    · have hji : (j : Int) < (n : Int) := by omega
      have hj0 : (0 : Int) ≤ (j : Int) := by omega
      obtain ⟨p, m, t, ks, hq, hb, hpm, hBk⟩ := HWA.out j (by rw [← HWL.out]; exact hlt)
      obtain ⟨g, off, hAv, hg, hcell⟩ := HRD.out (fun e => by rw [e] at hq; simp at hq)
      subst hAv
      obtain ⟨NA, hNA⟩ := HMJ.out
      have hmA1 := HMA1.out
      have hc1 := hcell j p hq
      have hgA : g ≠ mA := fun e => by
        rw [e, mapG_cell hmA1] at hc1
        cases hc1
      obtain ⟨hp1, hm1⟩ := HLT.out _ hpm
      simp only at hp1 hm1
      have hmw := HMW.out
      have hpA : p ≠ mA := by omega
      have hmAm : m ≠ mA := by omega
      have q0 := (upd_cell HUJ.out hg hgA (off + j)).trans hc1
      have q1 : wr.cell? ⟨p, 1, none⟩ = some (.map (some m)) := (upd_cell HUJ.out (block_lt hBk.blk) hpA 1).trans (block_cell hBk.blk 1)
      have lg : g < wr.heap.size := Nat.lt_of_lt_of_le hg HUJ.out.size
      have lp : p < wr.heap.size := Nat.lt_of_lt_of_le (block_lt hBk.blk) HUJ.out.size
      obtain ⟨Nm, hNm, hMm0⟩ := hBk.map
      have HMM := Lib.hid (mapG_upd hMm0 HUJ.out hmAm)
      have HB := Lib.hid hb
      have HKS := Lib.hid hBk.okk
      have HNA := Lib.hid hNA
      have HNE := Lib.hid hmAm
      have HKF := Lib.hid (show ∀ k ∈ ks, k ∈ (flatB bs).map (·.2) from fun k hk => key_flat (while_mem (by rw [← HL.out]; exact List.mem_of_getElem? hb)) hk)
      clear hq hb hpm hBk hcell hNA hmA1 hc1 hgA hp1 hm1 hmw hpA hmAm hg hMm0
      go_wp2_with (first
        | (at_range; refine wpList_range_G wr rfl _ _ rfl Try.underlying52 rfl HMM.out ?_; intro wi r hr0; have HLR := Lib.hid hr0; clear hr0; intro hrng hEi hsi)
        | go_in)
      have hrA : r ≠ mA := by
        have h5 := mapG_lt HNA.out
        have h6 := HLR.out
        omega
      have HRA := Lib.hid hrA
      have HEI := Lib.hid hEi
      have HRN := Lib.hid hrng
      clear q0 q1 lg lp hrA hEi hrng hsi
      go_loopw [8] (fun _ wn => ∃ done : List Key, RngG ktK etI m r Nm (cntF ks) done wn ∧ (∀ x ∈ done, (cntF ks x).isSome = true) ∧ (∃ N, MapC mA N (fun k => optN (inG L j done ks k)) wn) ∧ Upd (fun b => b = mA) wr wn) (fun _ wn => wn.rangeLeft m r)
      case atStart => exact ⟨[], HRN.out, (fun x hx => by cases hx), ⟨NA, mapG_congr (mapG_ext HNA.out HEI.out) (fun x => by rw [inG_start]) rfl⟩, upd_of_ext HEI.out⟩
      case round =>
        obtain ⟨done, hR, hI, hMd, hUd⟩ := hrel
        have HR := Lib.hid hR
        have HI := Lib.hid hI
        have HMD := Lib.hid hMd
        have HUD := Lib.hid hUd
        clear hR hI hMd hUd
        go_wp2_with (first
          | (at_next; refine wpList_next_G wr rfl _ rfl rfl HR.out ?_ ?_)
          | go_in)
        · intro hall
          go_wp2
          go_roundw
          case rel =>
            obtain ⟨N, hN⟩ := HMD.out
            exact ⟨j + 1, by omega, by go_num, ⟨N, mapG_congr hN (fun x => by rw [inG_end HB.out hall]) rfl⟩, upd_trans HUJ.out HUD.out (fun _ _ h => h)⟩
          case measure => simp [intOf]; omega
        · intro k cv2 w2 hfx hnx hR2 hltL hg2 hs2 hen
          rw [show ktK.val k = .agg #[.int .i64 k.a, .int .i64 k.b, .int .i64 k.c] from rfl, show etI.val cv2 = .int .i64 cv2 from rfl] at hen ⊢
          obtain ⟨hcv, hc0⟩ := cntF_some.1 hfx
          have hks : k ∈ ks := List.count_pos_iff.1 (Nat.pos_of_ne_zero hc0)
          obtain ⟨ct, hct⟩ : ∃ ct, ct = ks.count k := ⟨_, rfl⟩
          rw [← hct] at hcv
          subst hcv
          obtain ⟨cn, hcn⟩ : ∃ cn, cn = inG L j done ks k := ⟨_, rfl⟩
          have hbound : cn + ct ≤ 100000 := by
            have h5 := accW_succ HB.out k
            have h6 := accW_le L (j + 1) k
            have h7 : accW L L.length k = cnt (flatB bs) o c k := by rw [HL.out]; exact accW_cnt HA.out.rise o c k
            have h8 := cnt_le_len (flatB bs) o c k
            rw [← lenB_flat, HLEN.out] at h8
            rw [inG_own hnx] at hcn
            simp only at h5
            omega
          obtain ⟨N2, hN2⟩ := HMD.out
          have HM2 := Lib.hid (mapG_upd hN2 (upd_grown hg2) (fun e => HRA.out (Option.some.inj e)))
          have HOK := Lib.hid (HKS.out k hks)
          have HKM := Lib.hid (HKF.out k hks)
          have HUD2 := Lib.hid (upd_trans (upd_trans HUD.out (upd_grown hg2) (fun i hi e => by
            exact absurd hi (by
              have h5 : r = i := Option.some.inj e
              have h6 := HLR.out
              omega))) (upd_of_ext (fp := fun _ => False) (ext_alloc (ext_refl w2) (.cells #[.int .i64 k.a, .int .i64 k.b, .int .i64 k.c] 36))) (fun _ _ h => h.elim))
          obtain ⟨wa, hwa⟩ : ∃ x, x = w2.alloc (.cells #[.int .i64 k.a, .int .i64 k.b, .int .i64 k.c] 36) := ⟨_, rfl⟩
          have hEa : Ext w2 wa := by rw [hwa]; exact ext_alloc (ext_refl _) _
          have HKB := Lib.hid (show wa.heap[w2.heap.size]? = some (.cells #[.int .i64 k.a, .int .i64 k.b, .int .i64 k.c] 36 (0, 0)) by rw [hwa]; exact heap_alloc_new _ _)
          have HMa := Lib.hid (mapG_ext HM2.out hEa)
          have HRa := Lib.hid (rngG_ext hR2 hEa)
          have HLa := Lib.hid (show wa.rangeLeft m r < wr.rangeLeft m r by rw [left_ext hR2 hEa]; exact hltL)
          have HCT := Lib.hid hct
          have HCN := Lib.hid hcn
          have HNX := Lib.hid hnx
          have HFX := Lib.hid hfx
          rw [← hwa] at HUD2
          clear hN2 hks hct hcn hnx hfx hR2 hltL hg2 hs2 hEa hc0
          go_wp2_with fail
          rw [← hwa]
          clear hwa hen
          obtain ⟨kb, hkb⟩ : ∃ b, b = w2.heap.size := ⟨_, rfl⟩
          rw [← hkb] at HKB ⊢
          clear hkb
          have hkm : kb ≠ mA := mapG_off HMa.out HKB.out
          have hgetA : ((fun k => optN (inG L j done ks k)) k).getD 0 = (cn : Int) := by
            show (optN (inG L j done ks k)).getD 0 = _
            rw [optN_getD, HCN.out]
          have hnear : ∀ (N : Nat) (f : Key → Option Int) (x : World), MapC mA N f x → (∀ y, y ≠ k → f y = optN (inG L j done ks y)) → N ≤ 100000 := fun N f x h1 h2 => by
            have h5 := map_near (M := (flatB bs).map (·.2)) h1 (fun y hy => by
              by_cases e : y = k
              · rw [e]; exact HKM.out
              · rw [h2 y e, optN_some] at hy
                have h6 : accW L j y ≠ 0 ∨ y ∈ ks := by
                  unfold inG at hy
                  by_cases h7 : y ∈ done
                  · rw [if_pos h7] at hy
                    by_cases h8 : ks.count y = 0
                    · exact .inl (by omega)
                    · exact .inr (List.count_pos_iff.1 (Nat.pos_of_ne_zero h8))
                  · rw [if_neg h7] at hy
                    exact .inl hy
                rcases h6 with h6 | h6
                · obtain ⟨b, h7, h8⟩ := accW_mem h6
                  exact key_flat (while_mem (by rw [← HL.out]; exact h7)) h8
                · exact HKF.out y h6)
            rw [List.length_map, ← lenB_flat, HLEN.out] at h5
            omega
          obtain ⟨C, hC⟩ : ∃ C : World → Prop, ∀ x, C x ↔ (Upd (fun b => b = mA) wa x ∧ ∃ N f, MapC mA N f x ∧ (∀ y, y ≠ k → f y = optN (inG L j done ks y)) ∧ (f k).getD 0 = (cn : Int)) := ⟨_, fun _ => Iff.rfl⟩
          have hCE : ∀ a b, C a → Ext a b → C b := fun a b ha hE => (hC b).2 ⟨upd_trans ((hC a).1 ha).1 (upd_of_ext (fp := fun _ => False) hE) (fun _ _ h => h.elim), by
            obtain ⟨_, N, f, h1, h2⟩ := (hC a).1 ha
            exact ⟨N, f, mapG_ext h1 hE, h2⟩⟩
          have hCW : C wa := (hC wa).2 ⟨upd_refl, N2, _, HMa.out, fun _ _ => rfl, hgetA⟩
          haveI : Nonempty (CW C) := ⟨⟨wa, hCW⟩⟩
          have u3 : ∀ x : CW C, x.val.cell? ⟨kb, 0, none⟩ = some (.int .i64 k.a) := fun x => (upd_cell ((hC _).1 x.ok).1 (block_lt HKB.out) hkm 0).trans (block_cell HKB.out 0)
          have u4 : ∀ x : CW C, x.val.cell? ⟨kb, 1, none⟩ = some (.int .i64 k.b) := fun x => (upd_cell ((hC _).1 x.ok).1 (block_lt HKB.out) hkm 1).trans (block_cell HKB.out 1)
          have u5 : ∀ x : CW C, x.val.cell? ⟨kb, 2, none⟩ = some (.int .i64 k.c) := fun x => (upd_cell ((hC _).1 x.ok).1 (block_lt HKB.out) hkm 2).trans (block_cell HKB.out 2)
          have ulk : ∀ x : CW C, (Instr.lookup 52 (.map (some mA)) (.agg #[.int .i64 k.a, .int .i64 k.b, .int .i64 k.c]) false).run Try.prog x.val = .ok (.int .i64 (cn : Int)) x.val := fun x => by
            obtain ⟨_, N, f, h1, _, h2⟩ := (hC _).1 x.ok
            have h3 := look_G Try.underlying52 h1 (x := k) HOK.out
            have h4 : (f k).getD etI.zero = (cn : Int) := h2
            rw [h4] at h3
            exact h3
          have hw1 : IntKind.i64.wrap ((cn : Int) + (ct : Int)) = (cn : Int) + (ct : Int) := IntWalk.i64_in _ (by omega)
          have HNEAR := Lib.hid hnear
          have HCC := Lib.hid hC
          have HBD := Lib.hid hbound
          clear hnear hC hgetA hkm hbound
          refine wp_region_chn hCE hCW [] [0, 1, 2, 3, 4] [(5, fun v w' => ∃ (born N' : Nat), v = .tuple #[.int .i64 (cn : Int), .int .i64 (born : Int)] ∧ EntAt mA (k3 k) born w' ∧ MapC mA N' (fun z => if z = k then some (cn : Int) else optN (inG L j done ks z)) w'), (6, fun v w' => ∃ (born N' : Nat), v = .int .i64 (born : Int) ∧ EntAt mA (k3 k) born w' ∧ MapC mA N' (fun z => if z = k then some (cn : Int) else optN (inG L j done ks z)) w')] [7] [5, 6] rfl (by kernel_rfl) (by kernel_rfl) (by kernel_rfl) (fun _ _ d _ _ h => by cases d <;> exact h) ?_
          refine wpPre_nil ?_
          repeat (refine wpC_step rfl (fun K hK => ?_); (try simp only [Oper.quietAt, Oper.quietUpon]); go_simp; (refine hK _ ?_; clear hK K))
          refine wpC_nil ?_
          clear u3 u4 u5 ulk
          refine wpCh_step rfl rfl (fun v a b hE hR => ?_) (fun w6 hC6 _ => ?_) (fun v13 => ?_)
          · obtain ⟨born, N', h1, h3, h4⟩ := hR
            exact ⟨born, N', h1, entAt_block h3 (ext_block hE (mapG_lt h4)), mapG_ext h4 hE⟩
          · obtain ⟨hU6, N6, f6, hm6, hf6, hg6⟩ := (HCC.out _).1 hC6
            have hN6 := HNEAR.out _ _ _ hm6 hf6
            have h8 : (f6 k).getD etI.zero = (cn : Int) := hg6
            have hbd := HBD.out
            refine runs_entry_G (K := ktK) (E := etI) (.tmp 33) (.tmp 34) rfl Try.underlying52 rfl hm6 (by unfold maxLen; omega) (y := k) rfl HOK.out (by rw [h8]; exact okI_iff.2 (by omega)) (fun born w1 r1 r2 r3 => ?_)
            rw [h8] at r1 ⊢
            have r4 := mapG_congr r1 (f' := fun z => if z = k then some (cn : Int) else optN (inG L j done ks z)) (fun x => by
              by_cases e : x = k
              · simp [e]
              · simp [e, hf6 x e]) rfl
            refine ⟨(HCC.out w1).2 ⟨upd_trans hU6 (upd_grown r3) (fun _ _ e => (Option.some.inj e).symm), _, _, r4, fun y hy => by simp [hy], by simp⟩, born, _, rfl, r2, r4⟩
          refine wpCh_step rfl rfl (fun v a b hE hR => ?_) (fun w6 hC6 hR6 => ?_) (fun v14 => ?_)
          · obtain ⟨born, N', h1, h3, h4⟩ := hR
            exact ⟨born, N', h1, entAt_block h3 (ext_block hE (mapG_lt h4)), mapG_ext h4 hE⟩
          · obtain ⟨born, N', rfl, h3, h4⟩ := hR6
            simp only [runsAt]
            go_simp
            first | exact ⟨hC6, born, rfl, h3, N', h4⟩ | exact ⟨hC6, born, rfl, N', h3, h4⟩ | exact ⟨hC6, h3, N', h4⟩ | exact ⟨hC6, N', h3, h4⟩
          refine wpCh_nil (fun w6 hC6 hR6 => ?_)
          obtain ⟨born, N', rfl, r2, r3⟩ := hR6
          have hN' := HNEAR.out _ _ _ r3 (fun y hy => by simp [hy])
          have hbd := HBD.out
          obtain ⟨w7, hes, r4, r5⟩ := entStore_G (ty := 52) (c := ((cn : Int) + (ct : Int) : Int)) Try.underlying52 r3 (by unfold maxLen; omega) HOK.out r2 (okI_iff.2 (by omega))
          have hes' : (Instr.entryStore 52 (.map (some mA)) (.int .i64 (born : Int)) (.int .i64 ((cn : Int) + (ct : Int)))).run Try.prog w6 = .ok () w7 := hes
          have HU7 := Lib.hid (show Upd (fun b => b = mA) wa w7 from upd_trans ((HCC.out _).1 hC6).1 (upd_grown r5) (fun _ _ e => (Option.some.inj e).symm))
          have HM7 := Lib.hid (show ∃ N, MapC mA N (fun y => optN (inG L j (done ++ [k]) ks y)) w7 from ⟨_, mapG_congr r4 (fun x => by
            rw [inG_step HNX.out, ← HCN.out, ← HCT.out]
            have hc9 : ct ≠ 0 := by
              rw [HCT.out]
              exact (cntF_some.1 HFX.out).2
            by_cases e : x = k
            · rw [if_pos e, if_pos e]
              unfold optN
              rw [if_neg (by omega)]
              simp
            · rw [if_neg e, if_neg e, if_neg e]) rfl⟩)
          clear hes r4 r5 r2 r3 hC6
          refine wpSeq_of_list [7] [_] _ _ rfl ?_
          go_wp2
          go_roundw
          case rel => exact ⟨done ++ [k], rngG_upd HRa.out HU7.out HNE.out HRA.out, (fun y hy => by
            rcases List.mem_append.1 hy with h | h
            · exact HI.out y h
            · rw [List.mem_singleton.1 h, HFX.out]; rfl), HM7.out, upd_trans HUD2.out HU7.out (fun _ _ h => h)⟩
          case measure => rw [left_upd HRa.out HU7.out HNE.out HRA.out]; exact HLa.out
    · have hjn : j = n := by omega
      subst hjn
      obtain ⟨NA, hNA⟩ := HMJ.out
      have HMF := Lib.hid (mapG_congr hNA (f' := fun k => optN (cnt E o c k)) (fun k => by rw [HWL.out, HL.out, accW_cnt HA.out.rise o c k, cnt_perm HP.out]) rfl)
      have hNA5 : NA ≤ 100000 := by
        have h5 := map_near (M := E.map (·.2)) HMF.out (fun y hy => by
          rw [optN_some] at hy
          obtain ⟨e, h6, h7⟩ := List.countP_pos_iff.1 (Nat.pos_of_ne_zero hy)
          simp only [decide_eq_true_eq] at h7
          exact List.mem_map.2 ⟨e, h6, h7.1⟩)
        rw [List.length_map] at h5
        omega
      have HNA5 := Lib.hid hNA5
      have HEw := Lib.hid (show Ext w wr from ext_of_upd (upd_trans (upd_of_ext (ext_trans HE0.out HE1.out)) HUJ.out (fun i hi e => by
        have h5 := HMW.out
        have h6 : i = mA := e
        omega)))
      clear hNA hNA5 HMJ HUJ HRD HWA
      go_wp2_with fail
      refine (keys_any mA wr).mono ?_
      rintro e w3 ⟨Bm, rfl, hBm, hE3⟩
      have HE3 := Lib.hid hE3
      have HBM := Lib.hid hBm
      clear hE3 hBm
      go_wp2_with fail
      refine (sortedF_any mA Bm NA _ w3 HBM.out (mapG_ext HMF.out HE3.out) HNA5.out).mono ?_
      rintro e w4 ⟨v10, xs, rfl, hxs, hxl, hpw, hr4, hE4⟩
      have HXS := Lib.hid (cont_of hpw (fun x => (hxs x).trans optN_some))
      have HR4 := Lib.hid hr4
      have HE4 := Lib.hid (ext_trans HEw.out (ext_trans HE3.out hE4))
      have HM4 := Lib.hid (mapG_ext HMF.out (ext_trans HE3.out hE4))
      have HXL := Lib.hid (show xs.length ≤ 100000 by have h5 := HNA5.out; omega)
      obtain ⟨A4, c4, hv4⟩ := rowE_form hr4.1
      subst hv4
      clear hxs hxl hpw hr4 hE4
      obtain ⟨q, hq⟩ : ∃ q, q = xs.length := ⟨_, rfl⟩
      rw [← hq]
      have HQN := Lib.hid hq
      clear hq
      go_wp2
      go_loopw [11, 46] (fun x y wr => ∃ j : Nat, j ≤ q ∧ y = .int .i64 (j : Int) ∧ rowF elN w4.heap.size ((xs.take j).map fun k => (k, cnt E o c k)) x wr ∧ Ext w4 wr) (fun _ y _ => q - (intOf y).toNat)
      case atStart => exact ⟨0, by omega, rfl, rowF_nil _ _, ext_refl _⟩
      case round =>
        rename World => wi
        obtain ⟨i, hi, rfl, hR, hE⟩ := hrel
        obtain ⟨A5, c5, hv5⟩ := rowE_form hR.1
        rw [show ((xs.take i).map fun k => (k, cnt E o c k)).length = i by rw [List.length_map, List.length_take, ← HQN.out]; omega] at hv5
        subst hv5
        have HR := Lib.hid hR
        have HE := Lib.hid hE
        clear hR hE
        by_cases hlt : i < q
        · have hqb : q ≤ 100000 := by rw [HQN.out]; exact HXL.out
          have hji : (i : Int) < (q : Int) := by omega
          have hj0 : (0 : Int) ≤ (i : Int) := by omega
          obtain ⟨k, hk⟩ : ∃ k, xs[i]? = some k := ⟨_, List.getElem?_eq_getElem (by rw [← HQN.out]; exact hlt)⟩
          have hrw := rowE_ext HR4.out.1 HE.out
          obtain ⟨g, rfl⟩ : ∃ g, A4 = some ⟨g, 0, none⟩ := by
            rcases rowE_cases hrw with ⟨_, h0⟩ | ⟨g, cap, cur, h1, _⟩
            · rw [h0] at hk; simp at hk
            · simp only [Value.slice.injEq] at h1
              exact ⟨g, h1.1⟩
          have k0 : wi.cell? ⟨g, i * 3, none⟩ = some (.int .i64 k.a) := rowE_cell hrw hk (j := 0) (u := .int .i64 k.a) rfl
          have k1 : wi.cell? ⟨g, i * 3 + 1, none⟩ = some (.int .i64 k.b) := rowE_cell hrw hk (j := 1) (u := .int .i64 k.b) rfl
          have k2 : wi.cell? ⟨g, i * 3 + 2, none⟩ = some (.int .i64 k.c) := rowE_cell hrw hk (j := 2) (u := .int .i64 k.c) rfl
          have lg := (rowE_block hrw (g := g) rfl).1
          have HK := Lib.hid hk
          have hok : ok3 k := by
            refine Classical.byContradiction fun h5 => ?_
            have h6 := mapG_none HM4.out (x := k) h5
            have h7 := (HXS.out.mem k (cnt E o c k)).1 (List.mem_map.2 ⟨k, List.mem_of_getElem? hk, rfl⟩)
            have h8 : (optN (cnt E o c k)).isSome = true := optN_some.2 (by omega)
            have h9 : (optN (cnt E o c k)) = none := h6
            rw [h9] at h8
            cases h8
          obtain ⟨W, hW⟩ : ∃ W, W = wi.alloc (.cells #[.int .i64 k.a, .int .i64 k.b, .int .i64 k.c] 36) := ⟨_, rfl⟩
          obtain ⟨ct, hct⟩ : ∃ ct, ct = cnt E o c k := ⟨_, rfl⟩
          have hEW : Ext wi W := by rw [hW]; exact ext_alloc (ext_refl _) _
          have hKB : W.heap[wi.heap.size]? = some (.cells #[.int .i64 k.a, .int .i64 k.b, .int .i64 k.c] 36 (0, 0)) := by rw [hW]; exact heap_alloc_new _ _
          have HEW := Lib.hid (ext_trans HE.out hEW)
          have HRW := Lib.hid (rowF_ext _ _ _ hEW HR.out)
          have HMW' := Lib.hid (mapG_ext HM4.out HEW.out)
          have HCT := Lib.hid hct
          have HOK := Lib.hid hok
          clear hk hok hrw hct
          go_wp2_with fail
          rw [← hW]
          obtain ⟨kb, hkb⟩ : ∃ b, b = wi.heap.size := ⟨_, rfl⟩
          rw [← hkb] at hKB ⊢
          clear hW hkb k0 k1 k2 lg hEW
          have x0 : W.cell? ⟨kb, 0, none⟩ = some (.int .i64 k.a) := block_cell hKB 0
          have x1 : W.cell? ⟨kb, 1, none⟩ = some (.int .i64 k.b) := block_cell hKB 1
          have x2 : W.cell? ⟨kb, 2, none⟩ = some (.int .i64 k.c) := block_cell hKB 2
          have lk := block_lt hKB
          have hlk : ∀ p : Regrown, (Instr.lookup 52 (.map (some mA)) (.agg #[.int .i64 k.a, .int .i64 k.b, .int .i64 k.c]) false).run Try.prog (grow (redrawn W p.d) p.os) = .ok (.int .i64 (ct : Int)) (grow (redrawn W p.d) p.os) := fun p => by
            have h3 := look_G Try.underlying52 (mapG_ext HMW'.out (ext_grow (ext_refl W) p.d p.os)) (x := k) HOK.out
            have h4 : (optN (cnt E o c k)).getD etI.zero = (ct : Int) := by
              rw [HCT.out]
              exact optN_getD _
            rw [h4] at h3
            exact h3
          have hgc := cell_grown
          refine wp_region_mix [] [0, 1, 2, 3, 4, 5] [6] [7, 8] (by kernel_rfl) (by kernel_rfl) (fun _ _ d _ _ h => by cases d <;> exact h) ?_
          refine wpPre_nil ?_
          repeat (refine wpLoose_step rfl (fun K hK => ?_); (try simp only [Oper.quietAt, Oper.quietUpon]); go_simp; (refine hK _ ?_; clear hK K))
          refine wpLoose_nil ?_
          refine wpFresh_step (fun p => .slice (some ⟨p, 0, none⟩) 1 1) (.cells #[.int .i64 k.a, .int .i64 k.b, .int .i64 k.c, .int .i64 (ct : Int)] 38) rfl rfl (fun _ => by go_simp) (fun p1 hp1 hn1 => ?_)
          refine wpFresh_nil (fun w5 hE5 hs5 => ?_)
          have HP5 := Lib.hid hs5.2
          have HE5 := Lib.hid hE5
          clear hs5 hE5 hp1 hn1 x0 x1 x2 lk hlk hgc hKB
          refine wpSeq_of_list [7, 8] [_, _] _ _ rfl ?_
          simp only [Act.put, List.getElem_toArray, List.getElem_cons_succ, List.getElem_cons_zero, List.setIfInBounds_toArray, List.set_cons_succ, List.set_cons_zero]
          refine wpList_append rfl (.tmp 50) (.tmp 56) rfl _ _ rfl rfl (fun v' w' => rowF elN w4.heap.size ((xs.take i).map (fun k => (k, cnt E o c k)) ++ [(k, ct)]) v' w' ∧ w5.grownBy w' (Value.slice A5 i c5).ownBlock) (append_onto tpN _ w4.heap.size (.slice A5 i c5) (.slice (some ⟨p1, 0, none⟩) 1 1) ((xs.take i).map fun k => (k, cnt E o c k)) [(k, ct)] w5 (rowF_ext _ _ _ HE5.out HRW.out) (srcOf_one (H := 0) ⟨p1, rfl, Nat.zero_le _, HP5.out⟩) (by have h5 := HXL.out; rw [List.length_map, List.length_take]; simp; omega) (ext_size (ext_trans HEW.out HE5.out))) ?_
          rintro v7 w7 ⟨hR7, hg7⟩
          have HR7 := Lib.hid hR7
          have HG7 := Lib.hid hg7
          clear hR7 hg7
          go_wp2
          go_roundw
          case rel => exact ⟨i + 1, by omega, by go_num, (by
            rw [List.take_add_one, HK.out, Option.toList_some, List.map_append, List.map_singleton, ← HCT.out]
            exact HR7.out), ext_of_upd (upd_trans (upd_of_ext (ext_trans HEW.out HE5.out)) (upd_grown HG7.out) (fun b hb e => absurd (HRW.out.2 b e) (by omega)))⟩
          case measure => simp [intOf]; omega
        · have hin : i = q := by omega
          subst hin
          go_wp2
          refine bodyPost_ret (results_tmp rfl _ _ _) rfl ?_
          have h5 := HR.out
          rw [HQN.out, List.take_length] at h5
          rw [HQN.out]
          exact ⟨_, _, rfl, HXS.out, ⟨h5.1, fun g hg => Nat.le_trans (ext_size HE4.out) (h5.2 g hg)⟩, ext_trans HE4.out HE.out⟩
end Go.Proofs.Ytojgbphmkloicaa
