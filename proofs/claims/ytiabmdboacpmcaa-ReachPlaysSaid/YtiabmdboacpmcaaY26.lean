/- Texts joined: Kg Lj. -/
import Derived.Test.YtiabmdboacpmcaaY24
import Derived.Test.YtiabmdboacpmcaaY25
import Derived.Test.YtiabmdboacpmcaaY23
/- Expire: walked. -/
namespace Go.Proofs.Ytiabmdboacpmcaa
open Go Go.RowKit Go.Sort Go.WideMaps Go.Maps
set_option maxHeartbeats 4000000

theorem mid_hor {w0 w : World} {L : Loc} {room h h' : Int} {E : Gr3} {S : Int → Option Nat} {sub : Int → Key → Option Bool} {F : Nat → Prop} (H : MidH w0 L room h E S sub F w) : MidH w0 L room h' E S sub F (w.setCell ⟨L.pf, 2, none⟩ (.int .i64 h')) ∧ (∀ N f, MapP L.bb N f w → MapP L.bb N f (w.setCell ⟨L.pf, 2, none⟩ (.int .i64 h'))) := by
  have hU : Upd (fun b => b = L.pf) w (w.setCell ⟨L.pf, 2, none⟩ (.int .i64 h')) := upd_setCell (a := ⟨L.pf, 2, none⟩) _
  obtain ⟨N, h1⟩ := H.edges
  obtain ⟨M, h2⟩ := H.out
  refine ⟨⟨?_, ⟨N, mapG_upd h1 hU (fun e => mapG_off h1 H.blk e.symm)⟩, ⟨M, mapG_upd h2 hU (fun e => mapG_off h2 H.blk e.symm)⟩, fun n b hb => ?_, H.ne, H.sne, H.sinj, H.low, ?_, H.own⟩, fun N f hP => mapG_upd hP hU (fun e => mapG_off hP H.blk e.symm)⟩
  · have h5 := heap_setCell_at (j := 2) (u := .int .i64 h') H.blk
    exact h5
  · obtain ⟨N', h5⟩ := H.sub n b hb
    exact ⟨N', mapG_upd h5 hU (fun e => mapG_off h5 H.blk e.symm)⟩
  · exact ext_of_upd (upd_trans (upd_of_ext H.ext) hU (fun i hi e => by have e' : i = L.pf := e; have := H.low.1; omega))
/-- the edges while the old ones are dropped -/
def oldD (E : Gr3) (h : Int) (done : List Key) : Gr3 := fun k => if k ∈ done then cutG E h k else E k
theorem oldD_nil (E : Gr3) (h : Int) : oldD E h [] = E := by
  funext x
  unfold oldD
  rw [if_neg (by simp)]
theorem oldD_keep {E : Gr3} {h : Int} {done : List Key} {k : Key} {u : Int} (hk : E k = some u) (hu : ¬ u < h) : oldD E h (done ++ [k]) = oldD E h done := by
  funext z
  unfold oldD
  by_cases e : z = k
  · subst e
    have h1 : cutG E h z = some u := cutG_some.2 ⟨hk, by omega⟩
    rw [if_pos (by simp), h1]
    split
    · rfl
    · exact hk.symm
  · simp [e]
theorem oldD_drop {E : Gr3} {h : Int} {done : List Key} {k : Key} {u : Int} (hk : E k = some u) (hu : u < h) : oldD E h (done ++ [k]) = delG (oldD E h done) k := by
  funext z
  unfold oldD delG
  by_cases e : z = k
  · subst e
    rw [if_pos (by simp), if_pos rfl]
    unfold cutG
    rw [hk]
    simp only
    rw [if_neg (by omega)]
  · simp [e]
theorem oldD_all {E : Gr3} {h : Int} {done : List Key} (hall : ∀ k, (E k).isSome = true → k ∈ done) : oldD E h done = cutG E h := by
  funext k
  unfold oldD
  by_cases hm : k ∈ done
  · rw [if_pos hm]
  · rw [if_neg hm]
    cases hk : E k with
    | none => unfold cutG; rw [hk]
    | some u => exact absurd (hall k (by rw [hk]; rfl)) hm
theorem left_fix {A : Auto} {E : Gr3} {f : Bst} {h : Int} {S : Int → Option Nat} (hf : FixB A E f) (hS : ∀ n, (S n).isSome = true ↔ isNode (cutG E h) n) (htop : ∀ k u, E k = some u → u ≤ forever) : FixB A (cutG E h) (leftB h S f) := by
  refine cut_fix hf (fun x v => ?_) htop
  unfold leftB goneB
  cases hx : f x with
  | none => simp
  | some u =>
    simp only
    rw [← hS, ← hS]
    cases ha : S x.a <;> cases hb : S x.b <;> by_cases hu : u < h <;> simp [hu] <;> omega
def ExpTo (w0 : World) (L : Loc) (room h : Int) (E : Gr3) (mv : List Mv) (b : Nat) (F : Nat → Prop) (n : Int) (w : World) (e : Ending) (w' : World) : Prop :=
  e = .returned (.int .i64 n) ∧ ForM w0 L room h (cutG E h) mv b F w' ∧ Upd F w w'
set_option maxRecDepth 100000 in
theorem exp_any (w0 : World) (L : Loc) (room h : Int) (E : Gr3) (b : Nat) (mv : List Mv) (F : Nat → Prop) (ks ks' : List Key) (t h' : Int) (w : World)
    (H : ForM w0 L room h E mv b F w) (hC : Card E ks) (hC' : Card (cutG E h') ks') (hkl : ks.length ≤ 100000) (hh : h' = max h t) (htop : ∀ k u, E k = some u → u ≤ forever) :
    Calls Try.prog 46 #[ptr L.pf, .int .i64 t] w (ExpTo w0 L room h' E mv b F ((ks.length : Int) - (ks'.length : Int)) w) := by
  obtain ⟨S, f0, hMid, hBest, hFix, hNodes⟩ := H.ex
  obtain ⟨W, hW⟩ : ∃ W, W = w.alloc (.cells #[ptr L.pf] 61) := ⟨_, rfl⟩
  have hE0 : Ext w W := by rw [hW]; exact ext_alloc (ext_refl _) _
  obtain ⟨bf, hbf⟩ : ∃ b, b = w.heap.size := ⟨_, rfl⟩
  have hK : W.heap[bf]? = some (.cells #[ptr L.pf] 61 (0, 0)) := by rw [hW, hbf]; exact heap_alloc_new _ _
  obtain ⟨F1, hF1⟩ : ∃ F1 : Nat → Prop, F1 = fun b => F b ∧ b < w.heap.size := ⟨_, rfl⟩
  have hbw : L.bb < w.heap.size := by obtain ⟨NB, hNB⟩ := hBest; exact mapG_lt hNB
  have hM1 := midH_ext (mid_own hMid hbw (F' := F1) (fun b hb hF => by rw [hF1]; exact ⟨hF, hb⟩)) hE0
  have HM1 := Lib.hid hM1
  have HB1 := Lib.hid (best_ext hBest hE0)
  have HFX := Lib.hid (fun S' => left_fix (h := h') (S := S') hFix)
  have HTOP := Lib.hid htop
  have HND := Lib.hid hNodes
  have HC := Lib.hid (And.intro hC hC')
  have HE0 := Lib.hid hE0
  have HK := Lib.hid hK
  have HW := Lib.hid (And.intro hW hbf)
  have HF1 := Lib.hid hF1
  have HH := Lib.hid hh
  have q0 := block_cell hK 0
  have f0' := block_lt hK
  have p2 := block_cell hM1.blk 2
  have l0 := block_lt hM1.blk
  have z2 := block_frozen hM1.blk 2
  clear H hMid hBest hFix hNodes hC hC' hW hE0 hbf hK hF1 hbw hM1 htop hh
  go_enter Try.func46, Try.ntmps46
  have hgc := cell_grown
  go_wp2
  rw [← HW.out.1, ← HW.out.2]
  refine wp_region_mix [] [0, 1, 2, 3, 4, 5, 6, 7, 8] [] [9] (by kernel_rfl) (by kernel_rfl) (fun _ _ d _ _ h => by cases d <;> exact h) ?_
  refine wpPre_nil ?_
  repeat (refine wpLoose_step rfl (fun K hK => ?_); (try simp only [Oper.quietAt, Oper.quietUpon]); go_simp; (refine hK _ ?_; clear hK K))
  refine wpLoose_nil (wpFresh_nil (fun w2 hE2 _ => ?_))
  try simp only [List.drop_succ_cons, List.drop_zero]
  have HE2 := Lib.hid hE2
  clear q0 f0' p2 l0 z2 hE2 hgc
  have hm2 := midH_ext HM1.out HE2.out
  have hm3 := mid_hor (h' := max h t) hm2
  have p2 := block_cell hm2.blk 2
  have z2 := block_frozen hm2.blk 2
  have l0 := block_lt hm2.blk
  obtain ⟨w3, hw3⟩ : ∃ w3, w3 = w2.setCell ⟨L.pf, 2, none⟩ (.int .i64 (max h t)) := ⟨_, rfl⟩
  have hU3 : Upd (fun b => b = L.pf) w2 w3 := by rw [hw3]; exact upd_setCell (a := ⟨L.pf, 2, none⟩) _
  rw [← hw3, ← HH.out] at hm3
  have HW3 := Lib.hid hw3
  have hbl2 : ∃ N, MapP L.bb N f0 w2 := best_ext HB1.out HE2.out
  have hb3 : Best L f0 w3 := by
    obtain ⟨NB, hNB⟩ := hbl2
    exact ⟨NB, hm3.2 NB f0 hNB⟩
  have hpf : bf ≠ L.pf := fun e => by
    have h5 := HK.out
    rw [e, HM1.out.blk] at h5
    simp only [Option.some.injEq, Obj.cells.injEq] at h5
    exact absurd h5.2.1 (by decide)
  have hk3 := (hU3.block bf (ext_lt HE2.out (block_lt HK.out)) hpf).trans ((ext_block HE2.out (block_lt HK.out)).trans HK.out)
  have hUw3 : Upd F1 w w3 := upd_trans (upd_of_ext (ext_trans HE0.out HE2.out)) hU3 (fun i _ e => by have e' : i = L.pf := e; rw [e']; exact HM1.out.own.1)
  have HM3 := Lib.hid hm3.1
  have HB3 := Lib.hid hb3
  have HK3 := Lib.hid hk3
  have HU3 := Lib.hid hUw3
  clear hm2 hm3 hw3 hU3 hbl2 hb3 hpf hk3 hUw3
  obtain ⟨NE, hNE⟩ := HM3.out.edges
  have HN := Lib.hid (card_len HC.out.1 hNE)
  have HNE := Lib.hid hNE
  have hlen : ∀ ty, (Builtin.len_ #[95] ty #[.map (some L.be)]).run Try.prog (w2.setCell ⟨L.pf, 2, none⟩ (.int .i64 (max h t))) = .ok (.int .i64 (NE : Int)) (w2.setCell ⟨L.pf, 2, none⟩ (.int .i64 (max h t))) := fun ty => by rw [← HW3.out]; exact len_G Try.underlying95 hNE
  have q0 : (w2.setCell ⟨L.pf, 2, none⟩ (.int .i64 (max h t))).cell? ⟨bf, 0, none⟩ = some (ptr L.pf) := by rw [← HW3.out]; exact block_cell HK3.out 0
  have f0' : bf < (w2.setCell ⟨L.pf, 2, none⟩ (.int .i64 (max h t))).heap.size := by rw [← HW3.out]; exact block_lt HK3.out
  have p3 : (w2.setCell ⟨L.pf, 2, none⟩ (.int .i64 (max h t))).cell? ⟨L.pf, 3, none⟩ = some (.map (some L.be)) := by rw [← HW3.out]; exact block_cell HM3.out.blk 3
  have l1 : L.pf < (w2.setCell ⟨L.pf, 2, none⟩ (.int .i64 (max h t))).heap.size := by rw [← HW3.out]; exact block_lt HM3.out.blk
  clear hNE
  refine wpSeq_of_list [9] [_] _ _ rfl ?_
  go_wp2_with fail
  rw [← HW3.out]
  clear p2 z2 l0 hlen q0 f0' p3 l1
  refine (cloneE_any L.be NE E w3 HNE.out).mono ?_
  rintro e w4 ⟨rfl, hcl, hE4, hs4⟩
  obtain ⟨bc, hbc⟩ : ∃ b, b = w3.heap.size := ⟨_, rfl⟩
  rw [← hbc] at hcl hs4 ⊢
  have HCL := Lib.hid hcl
  have HBC := Lib.hid hbc
  have HE4 := Lib.hid hE4
  clear hcl hE4 hs4 hbc
  go_wp2_with (first
    | (at_range; refine wpList_range_G _ rfl _ _ rfl Try.underlying95 rfl HCL.out ?_; intro w5 r hr0; have HLR := Lib.hid hr0; clear hr0; intro hrng hE5 hs5)
    | go_in)
  have HRN := Lib.hid hrng
  have HE5 := Lib.hid (ext_trans HE4.out hE5)
  have HLR' := Lib.hid (show w.heap.size ≤ r ∧ w.heap.size ≤ bc from by
    have h5 := HU3.out.size
    have h6 := ext_size HE4.out
    have h7 := HLR.out
    have h8 := HBC.out
    omega)
  clear hrng hE5 hs5
  go_simp
  go_loopw [] (fun wn => ∃ (done : List Key) (S' : Int → Option Nat), RngG kK eI bc r NE E done wn ∧ MidH w0 L room h' (oldD E h' done) S' (subF (oldD E h' done)) F1 wn ∧ Best L f0 wn ∧ (∀ n, (S' n).isSome = true ↔ isNode (oldD E h' done) n) ∧ wn.heap[bf]? = some (.cells #[ptr L.pf] 61 (0, 0)) ∧ Upd F1 w wn) (fun wn => wn.rangeLeft bc r)
  case atStart => exact ⟨[], S, HRN.out, by rw [oldD_nil]; exact midH_ext HM3.out HE5.out, best_ext HB3.out HE5.out, by rw [oldD_nil]; exact HND.out, (ext_block HE5.out (block_lt HK3.out)).trans HK3.out, upd_trans HU3.out (upd_of_ext (fp := fun _ => False) HE5.out) (fun _ _ h => h.elim)⟩
  case round =>
    rename World => wn
    obtain ⟨done, S', hR, hM, hB, hN, hK, hU⟩ := hrel
    have HR := Lib.hid hR
    have HM := Lib.hid hM
    have HB := Lib.hid hB
    have HN' := Lib.hid hN
    have HKN := Lib.hid hK
    have HU := Lib.hid hU
    clear hR hM hB hN hK hU
    go_wp2_with (first
      | (at_next; refine wpList_next_G wn rfl _ rfl rfl HR.out ?_ ?_)
      | go_in)
    · intro hall
      have hM := HM.out
      have hN := HN'.out
      rw [oldD_all hall] at hM hN
      obtain ⟨NC, hNC⟩ := hM.edges
      obtain ⟨NO, hNO⟩ := hM.out
      obtain ⟨NP, hNP⟩ := HB.out
      have hcl := card_len HC.out.2 hNC
      have hle : NC ≤ NE := by
        rw [hcl, HN.out]
        exact nodupK_le HC.out.2.nd (fun k hk => (HC.out.1.mem k).2 (by
          obtain ⟨u, hu⟩ := Option.isSome_iff_exists.1 ((HC.out.2.mem k).1 hk)
          rw [(cutG_some.1 hu).1]; rfl))
      have hNEl : NE ≤ 100000 := by rw [HN.out]; exact hkl
      have HD := Lib.hid (delf_any L room h' S' NO NP bf f0 wn hNP HKN.out hM.blk hNO hM.ne.2.2)
      have HMC := Lib.hid hM
      have HNN := Lib.hid hN
      have HCL' := Lib.hid hcl
      have hsub : IntKind.i64.wrap ((NE : Int) - (NC : Int)) = (NE : Int) - (NC : Int) := IntWalk.i64_in _ (by omega)
      have q0 := block_cell HKN.out 0
      have f0' := block_lt HKN.out
      have p5 := block_cell hM.blk 5
      have l0 := block_lt hM.blk
      clear hall hM hN hNC hNO hNP hcl hle hNEl
      go_wp2_with fail
      refine HD.out.mono ?_
      rintro e w6 ⟨rfl, hP6, hU6⟩
      have hbb := HB.out
      have hm6 := mid_best HMC.out (by obtain ⟨N, hN⟩ := hbb; exact ⟨N, f0, hN⟩) hU6
      have hk6 := (hU6.block bf (block_lt HKN.out) (by obtain ⟨N, hN⟩ := hbb; exact mapG_off hN HKN.out)).trans HKN.out
      obtain ⟨N6, hN6⟩ := hm6.edges
      have h6 : N6 = NC := (card_len HC.out.2 hN6).trans HCL'.out.symm
      rw [h6] at hN6
      have hlen : ∀ ty, (Builtin.len_ #[95] ty #[.map (some L.be)]).run Try.prog w6 = .ok (.int .i64 (NC : Int)) w6 := fun ty => len_G Try.underlying95 hN6
      have HF := Lib.hid (show ExpTo w0 L room h' E mv b F ((ks.length : Int) - (ks'.length : Int)) w (.returned (.int .i64 ((NE : Int) - (NC : Int)))) w6 from ⟨by rw [HN.out, HCL'.out], ⟨⟨S', leftB h' S' f0, mid_own hm6 (by obtain ⟨N, hN⟩ := hP6; exact mapG_lt hN) (fun b _ hf => by rw [HF1.out] at hf; exact hf.1), hP6, HFX.out S' HNN.out HTOP.out, HNN.out⟩⟩, upd_trans (upd_mono HU.out (fun b _ hf => by rw [HF1.out] at hf; exact hf.1)) hU6 (fun b _ e => by
        have e' : b = L.bb := e
        rw [e']
        have h7 := HMC.out.own.2.2.2.1
        rw [HF1.out] at h7
        exact h7.1)⟩)
      clear q0 f0' p5 l0 
      have q0 := block_cell hk6 0
      have f0' := block_lt hk6
      have p3 := block_cell hm6.blk 3
      have l0 := block_lt hm6.blk
      clear hP6 hU6 hbb hm6 hk6 hN6 h6
      go_wp2
      refine bodyPost_ret (results_tmp rfl _ _ _) rfl ?_
      exact HF.out
    · intro k lasts w6 hfx hnx hR6 hlt6 hg6 hs6 hent
      rw [show kK.val k = .agg #[.int .i64 k.a, .int .i64 k.b, .int .i64 k.c] from rfl, show eI.val lasts = .int .i64 lasts from rfl] at hent ⊢
      have hok : ok3 k := (mapG_out (rngG_map HR.out) hfx).1
      obtain ⟨ka, kb, kc⟩ := k
      have hU6 := upd_grown hg6
      obtain ⟨wa, hwa⟩ : ∃ x', x' = w6.alloc (.cells #[.int .i64 ka, .int .i64 kb, .int .i64 kc] 85) := ⟨_, rfl⟩
      have hEa : Ext w6 wa := by rw [hwa]; exact ext_alloc (ext_refl _) _
      obtain ⟨bk, hbk⟩ : ∃ b, b = w6.heap.size := ⟨_, rfl⟩
      have hka : wa.heap[bk]? = some (.cells #[.int .i64 ka, .int .i64 kb, .int .i64 kc] 85 (0, 0)) := by rw [hwa, hbk]; exact heap_alloc_new _ _
      have hUr : Upd (fun b => b = r) wn wa := upd_trans (upd_mono hU6 (fun i _ e => (Option.some.inj e).symm)) (upd_of_ext (fp := fun _ => False) hEa) (fun _ _ h => h.elim)
      have hnr : ∀ b, F1 b ∨ b < w0.heap.size → ¬ (b = r) := fun b hb e => by
        have h8 := HLR'.out.1
        rcases hb with hb | hb
        · rw [HF1.out] at hb
          have := hb.2
          omega
        · have := ext_size HM.out.ext
          have h9 := HLR.out
          have h10 := ext_size HM1.out.ext
          have h11 := ext_size HE2.out
          have h12 := ext_size HM3.out.ext
          have h13 := ext_size HE4.out
          omega
      have hma := mid_upd HM.out hUr hnr
      have hba : Best L f0 wa := by
        obtain ⟨NB, hNB⟩ := HB.out
        exact ⟨NB, mapG_upd hNB hUr (hnr _ (.inl HM.out.own.2.2.2.1))⟩
      have hfa := (hUr.block bf (block_lt HKN.out) (fun e => (rngG_off HR.out HKN.out).2 e)).trans HKN.out
      have hua : Upd F1 w wa := upd_trans HU.out hUr (fun i hi e => absurd hi (by have e' : i = r := e; have := HLR'.out.1; omega))
      have HRA := Lib.hid (rngG_ext hR6 hEa)
      have HLA := Lib.hid (show wa.rangeLeft bc r < wn.rangeLeft bc r by rw [left_ext hR6 hEa]; exact hlt6)
      have HMA := Lib.hid hma
      have HBA := Lib.hid hba
      have HFA := Lib.hid hfa
      have HUA := Lib.hid hua
      have HKA := Lib.hid hka
      have HFX' := Lib.hid hfx
      have HOK := Lib.hid hok
      have HWB := Lib.hid (And.intro hwa hbk)
      clear hfx hnx hR6 hlt6 hg6 hs6 hok hU6 hEa hka hUr hnr hma hba hfa hua hwa hbk
      have q0 : (w6.alloc (.cells #[.int .i64 ka, .int .i64 kb, .int .i64 kc] 85)).cell? ⟨bf, 0, none⟩ = some (ptr L.pf) := by rw [← HWB.out.1]; exact block_cell HFA.out 0
      have f0' : bf < (w6.alloc (.cells #[.int .i64 ka, .int .i64 kb, .int .i64 kc] 85)).heap.size := by rw [← HWB.out.1]; exact block_lt HFA.out
      have p2 : (w6.alloc (.cells #[.int .i64 ka, .int .i64 kb, .int .i64 kc] 85)).cell? ⟨L.pf, 2, none⟩ = some (.int .i64 h') := by rw [← HWB.out.1]; exact block_cell HMA.out.blk 2
      have l0 : L.pf < (w6.alloc (.cells #[.int .i64 ka, .int .i64 kb, .int .i64 kc] 85)).heap.size := by rw [← HWB.out.1]; exact block_lt HMA.out.blk
      by_cases hlow : lasts < h'
      · have HLOW := Lib.hid hlow
        go_wp2_with fail
        rw [← HWB.out.1]
        refine (drop_any w0 L room h' (oldD E h' done) S' F1 f0 ⟨ka, kb, kc⟩ wa HMA.out HBA.out HN'.out HOK.out).mono ?_
        rintro e w7 ⟨rfl, S7, hm7, hb7, hn7, hu7⟩
        have hnr : ∀ b, w.heap.size ≤ b → ¬ F1 b := fun b hb hf => by
          rw [HF1.out] at hf
          have := hf.2
          omega
        have hfw : w.heap.size ≤ bf := by rw [HW.out.2]; exact Nat.le_refl _
        have HREL := Lib.hid (show RngG kK eI bc r NE E (done ++ [⟨ka, kb, kc⟩]) w7 ∧ MidH w0 L room h' (oldD E h' (done ++ [⟨ka, kb, kc⟩])) S7 (subF (oldD E h' (done ++ [⟨ka, kb, kc⟩]))) F1 w7 ∧ Best L f0 w7 ∧ (∀ n, (S7 n).isSome = true ↔ isNode (oldD E h' (done ++ [⟨ka, kb, kc⟩])) n) ∧ w7.heap[bf]? = some (.cells #[ptr L.pf] 61 (0, 0)) ∧ Upd F1 w w7 from by
          rw [oldD_drop HFX'.out HLOW.out]
          exact ⟨rngG_upd HRA.out hu7 (hnr _ HLR'.out.2) (hnr _ HLR'.out.1), hm7, hb7, hn7, (hu7.block bf (block_lt HFA.out) (hnr _ hfw)).trans HFA.out, upd_trans HUA.out hu7 (fun _ _ h => h)⟩)
        have HL7 := Lib.hid (show w7.rangeLeft bc r < wn.rangeLeft bc r by rw [left_upd HRA.out hu7 (hnr _ HLR'.out.2) (hnr _ HLR'.out.1)]; exact HLA.out)
        clear hm7 hb7 hn7 hu7 hnr hfw hlow q0 f0' p2 l0
        rw [← HWB.out.2]
        go_wp2
        go_roundw
        case rel => exact ⟨_, S7, HREL.out⟩
        case measure => exact HL7.out
      · have HREL := Lib.hid (show RngG kK eI bc r NE E (done ++ [⟨ka, kb, kc⟩]) wa ∧ MidH w0 L room h' (oldD E h' (done ++ [⟨ka, kb, kc⟩])) S' (subF (oldD E h' (done ++ [⟨ka, kb, kc⟩]))) F1 wa ∧ Best L f0 wa ∧ (∀ n, (S' n).isSome = true ↔ isNode (oldD E h' (done ++ [⟨ka, kb, kc⟩])) n) ∧ wa.heap[bf]? = some (.cells #[ptr L.pf] 61 (0, 0)) ∧ Upd F1 w wa from by
          rw [oldD_keep HFX'.out hlow]
          exact ⟨HRA.out, HMA.out, HBA.out, HN'.out, HFA.out, HUA.out⟩)
        rw [HWB.out.1] at HREL HLA
        clear HWB
        go_wp2
        go_roundw
        case rel => exact ⟨_, S', HREL.out⟩
        case measure => exact HLA.out
end Go.Proofs.Ytiabmdboacpmcaa
/- Forests beside each other: each stays as it is while the other one turns. -/
namespace Go.Proofs.Ytiabmdboacpmcaa
open Go Go.RowKit Go.Sort Go.WideMaps Go.Maps
set_option maxHeartbeats 4000000

/-- a world's first blocks -/
def trunc (w : World) (n : Nat) : World := { w with heap := w.heap.extract 0 n }
theorem trunc_size {w : World} {n : Nat} (h : n ≤ w.heap.size) : (trunc w n).heap.size = n := by
  unfold trunc
  simp
  omega
theorem trunc_block {w : World} {n k : Nat} (hk : k < n) : (trunc w n).heap[k]? = w.heap[k]? := by
  unfold trunc
  simp only [Array.getElem?_extract]
  by_cases h : k < w.heap.size
  · rw [if_pos (by omega), Nat.zero_add]
  · rw [if_neg (by omega)]
    exact (Array.getElem?_eq_none (by omega)).symm
theorem trunc_ext {w : World} {n : Nat} (h : n ≤ w.heap.size) : Ext (trunc w n) w := ext_of_upd ⟨rfl, rfl, rfl, by rw [trunc_size h]; exact h, fun k hk _ => by
  rw [trunc_size h] at hk
  exact (trunc_block hk).symm⟩
theorem trunc_upd {fp : Nat → Prop} {w w' : World} (h : Upd fp w w') : Upd fp w (trunc w' w.heap.size) := ⟨h.os, h.tape, h.output, by rw [trunc_size h.size]; exact Nat.le_refl _, fun k hk hn => (trunc_block hk).trans (h.block k hk hn)⟩
/-- a machine laid between two sizes stays, if nothing between them turns -/
theorem machT_reb {W0 w0 w' : World} {p : Nat} {t : Tr} {fp : Nat → Prop} (h : MachT W0 w0 p t) (hU : Upd fp w0 w') (hn : ∀ b, W0.heap.size ≤ b → b < w0.heap.size → ¬ fp b) : MachT (trunc w' W0.heap.size) (trunc w' w0.heap.size) p t := by
  obtain ⟨⟨Ms, ⟨h0, A, c, Vs, h1, h2, h3, h4, h5⟩, k1, k2, k3, k4⟩, hf⟩ := h
  have hs := ext_size k4
  have hsw := hU.size
  have hW : (trunc w' W0.heap.size).heap.size = W0.heap.size := trunc_size (by omega)
  have hT : (trunc w' w0.heap.size).heap.size = w0.heap.size := trunc_size (by omega)
  have hU' := trunc_upd hU
  have hrow : ∀ {α : Type} {E : El α} {L : List α} {v : Value}, rowF E W0.heap.size L v w0 → rowF E (trunc w' W0.heap.size).heap.size L v (trunc w' w0.heap.size) := fun hr => by
    rw [hW]
    exact rowF_upd hr hU' (fun b hb => hn b (hr.2 b hb) (rowE_block hr.1 hb).1)
  refine ⟨⟨Ms, ⟨by rw [hW]; exact h0, A, c, Vs, (hU'.block p (block_lt h1) (hn p h0 (block_lt h1))).trans h1, hrow h2, h3, fun i x l hx hl => hrow (h4 i x l hx hl), h5⟩, k1, k2, k3, ?_⟩, hf⟩
  refine ext_of_upd ⟨rfl, rfl, rfl, by rw [hW, hT]; exact hs, fun k hk _ => ?_⟩
  rw [hW] at hk
  rw [trunc_block hk, trunc_block (by omega)]
/-- a forest, what it owns (F), where its machine lies (G) -/
def FoZ (t : Tr) (room h : Int) (E : Gr3) (L : Loc) (F G : Nat → Prop) (w : World) : Prop := ∃ W0 w0, MachT W0 w0 L.pm t ∧ ForM w0 L room h E (mvT t) 0 F w ∧ ∀ b, W0.heap.size ≤ b → b < w0.heap.size → G b
theorem foZ_fo {t : Tr} {room h : Int} {E : Gr3} {L : Loc} {F G : Nat → Prop} {w : World} (H : FoZ t room h E L F G w) : ∃ w0, Fo t w0 L room h E F w := by
  obtain ⟨W0, w0, h1, h2, _⟩ := H
  exact ⟨w0, ⟨⟨W0, h1⟩, h2⟩⟩
theorem foZ_upd {t : Tr} {room h : Int} {E : Gr3} {L : Loc} {F G fp : Nat → Prop} {w w' : World} (H : FoZ t room h E L F G w) (hU : Upd fp w w') (hn : ∀ b, F b ∨ G b → ¬ fp b) : FoZ t room h E L F G w' := by
  obtain ⟨W0, w0, h1, h2, h3⟩ := H
  obtain ⟨S, f, hm, ⟨NB, hB⟩, hF, hN⟩ := h2.ex
  have hs := ext_size hm.ext
  have hU0 : Upd fp w0 w' := upd_trans (upd_of_ext hm.ext) hU (fun _ _ h => h)
  have hT : (trunc w' w0.heap.size).heap.size = w0.heap.size := trunc_size (by have := hU0.size; omega)
  have hW0 : W0.heap.size ≤ w0.heap.size := by obtain ⟨⟨Ms, _, _, _, _, k4⟩, _⟩ := h1; exact ext_size k4
  have hTW : (trunc w' W0.heap.size).heap.size = W0.heap.size := trunc_size (by have := hU0.size; omega)
  obtain ⟨o1, o2, o3, o4, o5⟩ := hm.own
  obtain ⟨N, e1⟩ := hm.edges
  obtain ⟨M, e2⟩ := hm.out
  refine ⟨trunc w' W0.heap.size, trunc w' w0.heap.size, machT_reb h1 hU0 (fun b hb hb' => hn b (.inr (h3 b hb hb'))), ⟨⟨S, f, ⟨(hU.block _ (block_lt hm.blk) (hn _ (.inl o1))).trans hm.blk, ⟨N, mapG_upd e1 hU (hn _ (.inl o2))⟩, ⟨M, mapG_upd e2 hU (hn _ (.inl o3))⟩, fun n b hb => ?_, hm.ne, hm.sne, hm.sinj, by rw [hT]; exact hm.low, trunc_ext (by have := hU0.size; omega), hm.own⟩, ⟨NB, mapG_upd hB hU (hn _ (.inl o4))⟩, hF, hN⟩⟩, fun b hb hb' => ?_⟩
  · obtain ⟨N', h5⟩ := hm.sub n b hb
    exact ⟨N', mapG_upd h5 hU (hn _ (.inl (o5 n b hb)))⟩
  · rw [hTW] at hb
    rw [hT] at hb'
    exact h3 b hb hb'
theorem foZ_ext {t : Tr} {room h : Int} {E : Gr3} {L : Loc} {F G : Nat → Prop} {w w' : World} (H : FoZ t room h E L F G w) (hE : Ext w w') : FoZ t room h E L F G w' := foZ_upd H (upd_of_ext (fp := fun _ => False) hE) (fun _ _ h => h)
theorem foZ_own {t : Tr} {room h : Int} {E : Gr3} {L : Loc} {F F' G : Nat → Prop} {w : World} (H : FoZ t room h E L F G w) (hF : ∀ b, b < w.heap.size → F b → F' b) : FoZ t room h E L F' G w := by
  obtain ⟨W0, w0, h1, h2, h3⟩ := H
  exact ⟨W0, w0, h1, forM_own h2 hF, h3⟩
theorem foZ_at {t : Tr} {room h : Int} {E : Gr3} {L : Loc} {F G : Nat → Prop} {w : World} (H : FoZ t room h E L F G w) : F L.pf ∧ L.pf < w.heap.size := by
  obtain ⟨W0, w0, h1, h2, h3⟩ := H
  obtain ⟨S, f, hm, _⟩ := h2.ex
  exact ⟨hm.own.1, block_lt hm.blk⟩
def NewZ (t : Tr) (room : Int) (w : World) (e : Ending) (w' : World) : Prop := ∃ L, e = .returned (.tuple #[ptr L.pf, .int .i64 0]) ∧ FoZ t room minI (fun _ => none) L (fun b => w.heap.size ≤ b ∧ b < w'.heap.size) (fun b => w.heap.size ≤ b ∧ b < w'.heap.size) w' ∧ Ext w w'
set_option maxRecDepth 100000 in
theorem new_z (t : Tr) (v : Value) (room : Int) (w : World) (hv : PV w t v) (hc : chk t = 0) (hr : 1 ≤ room ∧ room ≤ 10000) : Calls Try.prog 41 #[v, .int .i64 room] w (NewZ t room w) := by
  have HV := Lib.hid hv
  have CC := Lib.hid (fun w1 (hE : Ext w w1) => compile_yes t v w1 (PV_ext hv hE) hc)
  obtain ⟨kd, nn, A0, n0, c0, rfl⟩ : ∃ k n A l c, v = .agg #[.int .i64 k, .int .i64 n, .slice A l c] := by
    obtain ⟨k, n, ps⟩ := t
    obtain ⟨s, rfl, hs⟩ := hv
    obtain ⟨A, c, rfl⟩ := PS_form hs
    exact ⟨k, n, A, _, c, rfl⟩
  have HR := Lib.hid hr
  have hr1 : ¬ room < 1 := by omega
  have hr2 : ¬ (10000 : Int) < room := by omega
  have hE0 := ext_alloc (ext_refl w) (.cells #[.int .i64 kd, .int .i64 nn, .slice A0 n0 c0] 30)
  have HE0 := Lib.hid hE0
  have hmm := @run_makeMap Try.prog
  clear hv hc hr hE0
  go_enter Try.func41, Try.ntmps41
  go_wp2_with fail
  refine (CC.out _ HE0.out).mono ?_
  rintro e w2 ⟨pm, rfl, hM, hE2⟩
  have HM := Lib.hid hM
  have HE2 := Lib.hid (ext_trans HE0.out hE2)
  have HEE := Lib.hid hE2
  have HS0 := Lib.hid (show w.heap.size ≤ (w.alloc (.cells #[.int .i64 kd, .int .i64 nn, .slice A0 n0 c0] 30)).heap.size from ext_size HE0.out)
  clear hM hE2
  have hd1 : decide (room < 1) = false := decide_eq_false (by omega)
  have hd2 : decide ((10000 : Int) < room) = false := decide_eq_false (by omega)
  have HF := Lib.hid (show ∀ w9, w9 = ((((w2.alloc (.map #[] 0)).alloc (.map #[] 0)).alloc (.map #[] 0)).alloc (.cells #[ptr pm, .int .i64 room, .int .i64 (-9223372036854775808), .map (some w2.heap.size), .map (some (w2.heap.size + 1)), .map (some (w2.heap.size + 1 + 1))] 122)) → NewZ t room w (.returned (.tuple #[ptr (w2.heap.size + 1 + 1 + 1), .int .i64 0])) w9 from fun w9 h9 => by
    have e1 : Ext w2 (w2.alloc (.map #[] 0)) := ext_alloc (ext_refl _) _
    have e2 : Ext (w2.alloc (.map #[] 0)) ((w2.alloc (.map #[] 0)).alloc (.map #[] 0)) := ext_alloc (ext_refl _) _
    have e3 : Ext ((w2.alloc (.map #[] 0)).alloc (.map #[] 0)) (((w2.alloc (.map #[] 0)).alloc (.map #[] 0)).alloc (.map #[] 0)) := ext_alloc (ext_refl _) _
    have e4 : Ext (((w2.alloc (.map #[] 0)).alloc (.map #[] 0)).alloc (.map #[] 0)) w9 := by rw [h9]; exact ext_alloc (ext_refl _) _
    have m1 := mapG_ext (mapG_made kK eI w2) (ext_trans e2 (ext_trans e3 e4))
    have m2 := mapG_ext (mapG_made kI eM (w2.alloc (.map #[] 0))) (ext_trans e3 e4)
    have m3 := mapG_ext (mapG_made kP eI ((w2.alloc (.map #[] 0)).alloc (.map #[] 0))) e4
    simp only [World.size_alloc] at m1 m2 m3
    have hsz := ext_size HE2.out
    have h9s : w9.heap.size = w2.heap.size + 1 + 1 + 1 + 1 := by rw [h9]; simp
    have hb := heap_alloc_new (((w2.alloc (.map #[] 0)).alloc (.map #[] 0)).alloc (.map #[] 0)) (.cells #[ptr pm, .int .i64 room, .int .i64 (-9223372036854775808), .map (some w2.heap.size), .map (some (w2.heap.size + 1)), .map (some (w2.heap.size + 1 + 1))] 122)
    rw [← h9] at hb
    simp only [World.size_alloc] at hb
    have hall := ext_trans e1 (ext_trans e2 (ext_trans e3 e4))
    refine ⟨⟨pm, w2.heap.size + 1 + 1 + 1, w2.heap.size, w2.heap.size + 1, w2.heap.size + 1 + 1⟩, rfl, ⟨_, w2, HM.out, ⟨fun _ => none, fun _ => none, ⟨hb, ⟨_, m1⟩, ⟨_, m2⟩, (fun n b h => by cases h), ⟨by simp, by simp; omega, by simp⟩, (fun n b h => by cases h), (fun n n' b h => by cases h), ⟨by simp; omega, by simp, by simp, by simp; omega, (fun n b h => by cases h)⟩, hall, ⟨by simp; omega, by simp; omega, by simp; omega, by simp; omega, (fun n b h => by cases h)⟩⟩, ⟨_, m3⟩, fix_none _, fun n => ⟨(fun h => by cases h), (fun h => by obtain ⟨k, u, h, _⟩ := h; cases h)⟩⟩, fun b hb hb' => ⟨Nat.le_trans HS0.out hb, by omega⟩⟩, ext_trans HE2.out hall⟩)
  go_wp2
  go_ret2
  exact HF.out _ rfl
theorem add_z {t : Tr} {room h : Int} {E : List Ed} {L : Loc} {F G : Nat → Prop} {k : Key} {u : Int} {w : World} (H : FoZ t room h (grOf E) L F G w) (hnd : KeysNd E) (hl : E.length ≤ 90) (hroom : 100 ≤ room) (hk : ok3 k) (hu : okI u) (hr : rightB k u = true) (hh : h ≤ u) :
    Calls Try.prog 42 #[ptr L.pf, k3 k, .int .i64 u] w fun e w' => e = .returned (.int .i64 0) ∧ FoZ t room h (grOf (addL E k u)) L (fun b => F b ∨ (w.heap.size ≤ b ∧ b < w'.heap.size)) G w' ∧ Upd F w w' := by
  obtain ⟨W0, w0, h1, h2, h3⟩ := H
  have hadd := add_any w0 W0 L room h (grOf E) _ 0 (enT t) (mvT t) F (E.map (·.1)) k u w h2 (machT_mach h1) (card_of hnd) (by rw [List.length_map]; omega) hk hu
  obtain ⟨hs1, hs2⟩ := add_same (L := E) (k := k) (u := u) (h := h) (room := room) (N := (E.map (·.1)).length) hr (by rw [List.length_map]; omega) hh
  refine hadd.mono ?_
  rintro e w' ⟨rfl, hF, hU⟩
  rw [hs1] at hF
  rw [hs2]
  exact ⟨rfl, ⟨W0, w0, h1, forM_own hF (fun b hb hf => hf.imp (fun h => h) (fun h => ⟨h, hb⟩)), h3⟩, hU⟩
theorem exp_z {t : Tr} {room h : Int} {E : List Ed} {L : Loc} {F G : Nat → Prop} {w : World} (b : Int) (H : FoZ t room h (grOf E) L F G w) (hnd : KeysNd E) (ht : ∀ e ∈ E, e.2 ≤ forever) (hl : E.length ≤ 100) :
    Calls Try.prog 46 #[ptr L.pf, .int .i64 b] w fun e w' => e = .returned (.int .i64 ((E.length : Int) - ((expL E (max h b)).length : Int))) ∧ FoZ t room (max h b) (grOf (expL E (max h b))) L F G w' ∧ Upd F w w' := by
  obtain ⟨W0, w0, h1, h2, h3⟩ := H
  have hc : Card (cutG (grOf E) (max h b)) ((expL E (max h b)).map (·.1)) := by rw [← grOf_exp hnd]; exact card_of (expL_nd hnd)
  refine (exp_any w0 L room h (grOf E) 0 (mvT t) F (E.map (·.1)) ((expL E (max h b)).map (·.1)) b (max h b) w h2 (card_of hnd) hc (by rw [List.length_map]; omega) rfl (fun k u hk => ht _ ((grOf_some hnd).1 hk))).mono ?_
  rintro e w' ⟨rfl, hF, hU⟩
  refine ⟨by rw [List.length_map, List.length_map], ⟨W0, w0, h1, ?_, h3⟩, hU⟩
  rw [grOf_exp hnd]
  exact hF
theorem pairs_z {t : Tr} {room h : Int} {E : List Ed} {L : Loc} {F G : Nat → Prop} {w : World} (H : FoZ t room h (grOf E) L F G w) (hnd : KeysNd E) (hl : E.length ≤ 100) : Calls Try.prog 38 #[ptr L.pf] w (PairsTo t (grOf E) w) := by
  obtain ⟨w0, h1⟩ := foZ_fo H
  exact pairs_any t w0 L room h (grOf E) F (E.map (·.1)) w h1 (card_of hnd) (by rw [List.length_map]; exact hl)
/-- two forests, and blocks that are neither's -/
structure TwoZ (t : Tr) (ha hb : Int) (Ea Eb : List Ed) (H : Nat) (La Lb : Loc) (X Fa Ga Fb Gb : Nat → Prop) (w : World) : Prop where
  a : FoZ t 100 ha (grOf Ea) La Fa Ga w
  b : FoZ t 100 hb (grOf Eb) Lb Fb Gb w
  fa : ∀ q, Fa q → ¬ (Fb q ∨ Gb q ∨ X q) ∧ H ≤ q ∧ q < w.heap.size
  fb : ∀ q, Fb q → ¬ (Fa q ∨ Ga q ∨ X q) ∧ H ≤ q ∧ q < w.heap.size
  low : (∀ q, Ga q → q < w.heap.size) ∧ (∀ q, Gb q → q < w.heap.size) ∧ ∀ q, X q → q < w.heap.size
  xg : ∀ q, X q → ¬ (Ga q ∨ Gb q)
def TwoF (t : Tr) (ha hb : Int) (Ea Eb : List Ed) (H : Nat) (La Lb : Loc) (X : Nat → Prop) (w : World) : Prop := ∃ Fa Ga Fb Gb, TwoZ t ha hb Ea Eb H La Lb X Fa Ga Fb Gb w
theorem twoF_swap {t : Tr} {ha hb : Int} {Ea Eb : List Ed} {H : Nat} {La Lb : Loc} {X : Nat → Prop} {w : World} (h : TwoF t ha hb Ea Eb H La Lb X w) : TwoF t hb ha Eb Ea H Lb La X w := by
  obtain ⟨Fa, Ga, Fb, Gb, h⟩ := h
  exact ⟨Fb, Gb, Fa, Ga, h.b, h.a, h.fb, h.fa, ⟨h.low.2.1, h.low.1, h.low.2.2⟩, fun q hq hc => h.xg q hq hc.symm⟩
theorem twoF_ext {t : Tr} {ha hb : Int} {Ea Eb : List Ed} {H : Nat} {La Lb : Loc} {X X' : Nat → Prop} {w w' : World} (h : TwoF t ha hb Ea Eb H La Lb X w) (hE : Ext w w') (hX : ∀ q, X' q → (X q ∨ w.heap.size ≤ q) ∧ q < w'.heap.size) : TwoF t ha hb Ea Eb H La Lb X' w' := by
  obtain ⟨Fa, Ga, Fb, Gb, h⟩ := h
  have hs := ext_size hE
  refine ⟨Fa, Ga, Fb, Gb, foZ_ext h.a hE, foZ_ext h.b hE, fun q hq => ?_, fun q hq => ?_, ⟨fun q hq => by have := h.low.1 q hq; omega, fun q hq => by have := h.low.2.1 q hq; omega, fun q hq => (hX q hq).2⟩, fun q hq hc => ?_⟩
  · obtain ⟨h1, h2, h3⟩ := h.fa q hq
    refine ⟨fun hc => ?_, h2, by omega⟩
    rcases hc with hc | hc | hc
    · exact h1 (.inl hc)
    · exact h1 (.inr (.inl hc))
    · rcases (hX q hc).1 with h4 | h4
      · exact h1 (.inr (.inr h4))
      · omega
  · obtain ⟨h1, h2, h3⟩ := h.fb q hq
    refine ⟨fun hc => ?_, h2, by omega⟩
    rcases hc with hc | hc | hc
    · exact h1 (.inl hc)
    · exact h1 (.inr (.inl hc))
    · rcases (hX q hc).1 with h4 | h4
      · exact h1 (.inr (.inr h4))
      · omega
  · rcases (hX q hq).1 with h4 | h4
    · exact h.xg q h4 hc
    · rcases hc with hc | hc
      · have := h.low.1 q hc; omega
      · have := h.low.2.1 q hc; omega
/-- what is neither's may turn -/
theorem twoF_upd {t : Tr} {ha hb : Int} {Ea Eb : List Ed} {H : Nat} {La Lb : Loc} {X fp : Nat → Prop} {w w' : World} (h : TwoF t ha hb Ea Eb H La Lb X w) (hU : Upd fp w w') (hX : ∀ q, fp q → X q) : TwoF t ha hb Ea Eb H La Lb X w' := by
  obtain ⟨Fa, Ga, Fb, Gb, h⟩ := h
  have hs := hU.size
  refine ⟨Fa, Ga, Fb, Gb, foZ_upd h.a hU (fun q hq hf => ?_), foZ_upd h.b hU (fun q hq hf => ?_), fun q hq => by obtain ⟨h1, h2, h3⟩ := h.fa q hq; exact ⟨h1, h2, by omega⟩, fun q hq => by obtain ⟨h1, h2, h3⟩ := h.fb q hq; exact ⟨h1, h2, by omega⟩, ⟨fun q hq => by have := h.low.1 q hq; omega, fun q hq => by have := h.low.2.1 q hq; omega, fun q hq => by have := h.low.2.2 q hq; omega⟩, h.xg⟩
  · rcases hq with hq | hq
    · exact (h.fa q hq).1 (.inr (.inr (hX q hf)))
    · exact h.xg q (hX q hf) (.inl hq)
  · rcases hq with hq | hq
    · exact (h.fb q hq).1 (.inr (.inr (hX q hf)))
    · exact h.xg q (hX q hf) (.inr hq)
theorem add_two {t : Tr} {ha hb : Int} {Ea Eb : List Ed} {H : Nat} {La Lb : Loc} {X : Nat → Prop} {k : Key} {u : Int} {w : World} (h : TwoF t ha hb Ea Eb H La Lb X w) (hnd : KeysNd Ea) (hl : Ea.length ≤ 90) (hk : ok3 k) (hu : okI u) (hr : rightB k u = true) (hh : ha ≤ u) :
    Calls Try.prog 42 #[ptr La.pf, k3 k, .int .i64 u] w fun e w' => e = .returned (.int .i64 0) ∧ TwoF t ha hb (addL Ea k u) Eb H La Lb X w' ∧ Upd (fun q => H ≤ q ∧ ¬ X q) w w' := by
  obtain ⟨Fa, Ga, Fb, Gb, h⟩ := h
  refine (add_z h.a hnd hl (by omega) hk hu hr hh).mono ?_
  rintro e w' ⟨rfl, hA, hU⟩
  have hs := hU.size
  have hH : H ≤ w.heap.size := by have h1 := foZ_at h.a; have h2 := (h.fa _ h1.1).2; omega
  refine ⟨rfl, ⟨_, Ga, Fb, Gb, hA, foZ_upd h.b hU (fun q hq hf => (h.fa q hf).1 (hq.imp (fun h => h) (fun h => .inl h))), fun q hq => ?_, fun q hq => ?_, ⟨fun q hq => by have := h.low.1 q hq; omega, fun q hq => by have := h.low.2.1 q hq; omega, fun q hq => by have := h.low.2.2 q hq; omega⟩, h.xg⟩, upd_mono hU (fun q _ hf => ⟨(h.fa q hf).2.1, fun hx => (h.fa q hf).1 (.inr (.inr hx))⟩)⟩
  · rcases hq with hq | hq
    · obtain ⟨h1, h2, h3⟩ := h.fa q hq
      exact ⟨h1, h2, by omega⟩
    · refine ⟨fun hc => ?_, by omega, hq.2⟩
      rcases hc with hc | hc | hc
      · have := (h.fb q hc).2.2; omega
      · have := h.low.2.1 q hc; omega
      · have := h.low.2.2 q hc; omega
  · obtain ⟨h1, h2, h3⟩ := h.fb q hq
    refine ⟨fun hc => ?_, h2, by omega⟩
    rcases hc with (hc | hc) | hc | hc
    · exact h1 (.inl hc)
    · omega
    · exact h1 (.inr (.inl hc))
    · exact h1 (.inr (.inr hc))
theorem exp_two {t : Tr} {ha hb : Int} {Ea Eb : List Ed} {H : Nat} {La Lb : Loc} {X : Nat → Prop} {w : World} (b : Int) (h : TwoF t ha hb Ea Eb H La Lb X w) (hnd : KeysNd Ea) (ht : ∀ e ∈ Ea, e.2 ≤ forever) (hl : Ea.length ≤ 100) :
    Calls Try.prog 46 #[ptr La.pf, .int .i64 b] w fun e w' => (∃ n, e = .returned (.int .i64 n)) ∧ TwoF t (max ha b) hb (expL Ea (max ha b)) Eb H La Lb X w' ∧ Upd (fun q => H ≤ q ∧ ¬ X q) w w' := by
  obtain ⟨Fa, Ga, Fb, Gb, h⟩ := h
  refine (exp_z b h.a hnd ht hl).mono ?_
  rintro e w' ⟨rfl, hA, hU⟩
  have hs := hU.size
  exact ⟨⟨_, rfl⟩, ⟨Fa, Ga, Fb, Gb, hA, foZ_upd h.b hU (fun q hq hf => (h.fa q hf).1 (hq.imp (fun h => h) (fun h => .inl h))), fun q hq => by obtain ⟨h1, h2, h3⟩ := h.fa q hq; exact ⟨h1, h2, by omega⟩, fun q hq => by obtain ⟨h1, h2, h3⟩ := h.fb q hq; exact ⟨h1, h2, by omega⟩, ⟨fun q hq => by have := h.low.1 q hq; omega, fun q hq => by have := h.low.2.1 q hq; omega, fun q hq => by have := h.low.2.2 q hq; omega⟩, h.xg⟩, upd_mono hU (fun q _ hf => ⟨(h.fa q hf).2.1, fun hx => (h.fa q hf).1 (.inr (.inr hx))⟩)⟩
theorem pairs_two {t : Tr} {ha hb : Int} {Ea Eb : List Ed} {H : Nat} {La Lb : Loc} {X : Nat → Prop} {w : World} (h : TwoF t ha hb Ea Eb H La Lb X w) (hnd : KeysNd Ea) (hl : Ea.length ≤ 100) : Calls Try.prog 38 #[ptr La.pf] w (PairsTo t (grOf Ea) w) := by
  obtain ⟨Fa, Ga, Fb, Gb, h⟩ := h
  exact pairs_z h.a hnd hl
/-- two forests made, one behind the other -/
theorem two_new {t : Tr} {H : Nat} {La Lb : Loc} {X : Nat → Prop} {w w1 w2 : World} (hH : H ≤ w.heap.size) (hE : Ext w w1) (hE2 : Ext w1 w2) (ha : FoZ t 100 minI (fun _ => none) La (fun b => w.heap.size ≤ b ∧ b < w1.heap.size) (fun b => w.heap.size ≤ b ∧ b < w1.heap.size) w1) (hb : FoZ t 100 minI (fun _ => none) Lb (fun b => w1.heap.size ≤ b ∧ b < w2.heap.size) (fun b => w1.heap.size ≤ b ∧ b < w2.heap.size) w2) (hX : ∀ q, X q → q < w.heap.size) : TwoF t minI minI [] [] H La Lb X w2 := by
  have h1 := ext_size hE
  have h2 := ext_size hE2
  refine ⟨_, _, _, _, foZ_ext ha hE2, hb, fun q hq => ⟨fun hc => ?_, by omega, by omega⟩, fun q hq => ⟨fun hc => ?_, by omega, by omega⟩, ⟨fun q hq => by omega, fun q hq => by omega, fun q hq => by have := hX q hq; omega⟩, fun q hq hc => by have := hX q hq; omega⟩
  · rcases hc with hc | hc | hc
    · omega
    · omega
    · have := hX q hc; omega
  · rcases hc with hc | hc | hc
    · omega
    · omega
    · have := hX q hc; omega
end Go.Proofs.Ytiabmdboacpmcaa
