/- Add. -/
import Derived.Test.YtojgbphmkloicaaBt
import Derived.Test.YtojgbphmkloicaaBu
import Derived.Test.YtojgbphmkloicaaGd
import Derived.Test.YtojgbphmkloicaaKe
namespace Go.Proofs.Ytojgbphmkloicaa
open Go Go.RowKit Go.Sort
set_option maxHeartbeats 4000000

def AddPost (pb : Nat) (room : Int) (E : List Ev) (F : Nat → Prop) (x : Ev) (w : World) (e : Ending) (w' : World) : Prop := ∃ c, e = .returned (.int .i64 c) ∧ BagM w' pb room (addE E x) (fun b => F b ∨ w.heap.size ≤ b) ∧ Upd F w w'
theorem okE_false {t : Int} {k : Key} (h : k.a < 0 ∨ k.b < 0 ∨ k.c < 0) : okE (t, k) = false := by
  unfold okE
  rw [decide_eq_false_iff_not]
  show ¬ (0 ≤ k.a ∧ 0 ≤ k.b ∧ 0 ≤ k.c)
  omega
theorem okE_true {t : Int} {k : Key} (h : ¬ k.a < 0 ∧ ¬ k.b < 0 ∧ ¬ k.c < 0) : okE (t, k) = true := by
  unfold okE
  rw [decide_eq_true_iff]
  show 0 ≤ k.a ∧ 0 ≤ k.b ∧ 0 ≤ k.c
  omega
theorem bagM_own {w : World} {pb : Nat} {room : Int} {E : List Ev} {F F' : Nat → Prop} (h : BagM w pb room E F) (hF : ∀ b, b < w.heap.size → F b → F' b) : BagM w pb room E F' := by
  obtain ⟨bs, ps, v, h1, h2⟩ := h
  exact ⟨bs, ps, v, bagAt_own h1 hF, h2⟩
theorem add_bad (pb : Nat) (room : Int) (E : List Ev) (F : Nat → Prop) (t : Int) (k : Key) (w : World) (h : BagM w pb room E F) (hk : k.a < 0 ∨ k.b < 0 ∨ k.c < 0) :
    Calls Try.prog 8 #[ptr pb, .int .i64 t, k3 k] w (AddPost pb room E F (t, k) w) := by
  have HF := Lib.hid (show ∀ w', Ext w w' → AddPost pb room E F (t, k) w (.returned (.int .i64 2)) w' from fun w' hE => ⟨2, rfl, by
    unfold addE
    rw [okE_false hk]
    exact bagM_own (bagM_ext h hE) (fun b _ hb => .inl hb), upd_of_ext hE⟩)
  have HE := Lib.hid (ext_alloc (ext_refl w) (.cells #[.int .i64 k.a, .int .i64 k.b, .int .i64 k.c] 36))
  obtain ⟨a, b, c⟩ := k
  unfold k3
  simp only at hk HE ⊢
  clear h
  go_enter Try.func8, Try.ntmps8
  by_cases h1 : a < 0
  · go_wp2
    refine bodyPost_ret (results_tmp rfl _ _ _) rfl ?_
    exact HF.out _ HE.out
  · by_cases h2 : b < 0
    · go_wp2
      refine bodyPost_ret (results_tmp rfl _ _ _) rfl ?_
      exact HF.out _ HE.out
    · have h3 : c < 0 := by omega
      go_wp2
      refine bodyPost_ret (results_tmp rfl _ _ _) rfl ?_
      exact HF.out _ HE.out
theorem add_good (pb : Nat) (room : Int) (E : List Ev) (F : Nat → Prop) (t : Int) (k : Key) (w : World) (h : BagM w pb room E F) (hm : (E.length : Int) < room) (hr : room ≤ 100000) (hk : ok3 k) (ht : okI t) (hk0 : ¬ k.a < 0 ∧ ¬ k.b < 0 ∧ ¬ k.c < 0) :
    Calls Try.prog 8 #[ptr pb, .int .i64 t, k3 k] w (AddPost pb room E F (t, k) w) := by
  obtain ⟨bs, ps, v, hA, hP, hNe⟩ := h
  have hlen : lenB bs = E.length := by rw [lenB_flat, hP.length_eq]
  have hbl : bs.length ≤ 100000 := by have := len_le_lenB hNe; omega
  obtain ⟨n, hn⟩ : ∃ n, n = lenB bs := ⟨_, rfl⟩
  have hnr : (n : Int) < room := by rw [hn, hlen]; exact hm
  have HP := Lib.hid hP
  have HNE := Lib.hid hNe
  have HA := Lib.hid hA
  have HN := Lib.hid hn
  have HK := Lib.hid hk
  have HT := Lib.hid ht
  have HOK := Lib.hid (okE_true (t := t) hk0)
  obtain ⟨W, hW⟩ : ∃ W, W = w.alloc (.cells #[.int .i64 k.a, .int .i64 k.b, .int .i64 k.c] 36) := ⟨_, rfl⟩
  have HE := Lib.hid (show Ext w W by rw [hW]; exact ext_alloc (ext_refl _) _)
  have hkb : W.heap[w.heap.size]? = some (.cells #[.int .i64 k.a, .int .i64 k.b, .int .i64 k.c] 36 (0, 0)) := by rw [hW]; exact heap_alloc_new _ _
  have HKB := Lib.hid hkb
  have hpb := (ext_block HE.out (block_lt hA.blk)).trans hA.blk
  rw [← hn] at hpb
  have q1 := block_cell hpb 1
  have q2 := block_cell hpb 2
  have l0 := block_lt hpb
  obtain ⟨h1, h2, h3⟩ := hk0
  have CF := Lib.hid (fun w' (hE : Ext w w') => find_any pb room bs ps v F t w' (bagAt_ext hA hE) (by omega))
  have k0 := block_cell hkb 0
  have k1 := block_cell hkb 1
  have k2 := block_cell hkb 2
  have lk := block_lt hkb
  have hnge : ¬ room ≤ (n : Int) := by omega
  unfold k3
  clear hA hP hNe hkb hpb hlen hn hk ht hm
  go_enter Try.func8, Try.ntmps8
  have hgc := cell_grown
  go_wp2
  rw [← hW]
  clear hW
  refine wp_region_free 9 [0, 1, 2, 3, 4, 5, 6, 7, 8] [] (by kernel_rfl) (by kernel_rfl) ?_
  repeat (refine wpLoose_step rfl (fun K hK => ?_); (try simp only [Oper.quietAt, Oper.quietUpon]); go_simp; (refine hK _ ?_; clear hK K))
  refine wpLoose_nil (wpFresh_nil (fun W3 hE3 _ => ?_))
  simp only [List.drop_succ_cons, List.drop_zero]
  have HE3 := Lib.hid (ext_trans HE.out hE3)
  have HKB3 := Lib.hid ((ext_block hE3 (block_lt HKB.out)).trans HKB.out)
  clear hE3 q1 q2 l0 k0 k1 k2 lk hgc HE HKB
  go_wp2_with fail
  refine (CF.out _ HE3.out).mono ?_
  rintro e w4 ⟨rfl, rfl⟩
  obtain ⟨at', hat⟩ : ∃ i, i = idxB bs t := ⟨_, rfl⟩
  rw [← hat]
  have HAT := Lib.hid hat
  have hatl : at' ≤ bs.length := by rw [hat]; exact idxB_le bs t
  cases hth : thereB bs t with
  | true =>
    have HTH := Lib.hid hth
    clear hat hth
    obtain ⟨ks, hks⟩ : ∃ ks, bs[at']? = some (t, ks) := by
      have h5 := HTH.out
      unfold thereB at h5
      rw [← HAT.out] at h5
      cases hx : bs[at']? with
      | none => rw [hx] at h5; cases h5
      | some b =>
        rw [hx] at h5
        obtain ⟨t', ks⟩ := b
        exact ⟨ks, by rw [show t' = t from of_decide_eq_true h5]⟩
    obtain ⟨B1, hB1⟩ : ∃ B, B = bs := ⟨_, rfl⟩
    obtain ⟨P1, hP1⟩ : ∃ P, P = ps := ⟨_, rfl⟩
    obtain ⟨A1, c1, hv1⟩ := rowE_form HA.out.row
    obtain ⟨n1, hn1⟩ : ∃ n, n = (ps.map (·.1)).length := ⟨_, rfl⟩
    rw [← hn1] at hv1
    obtain ⟨F1, hF1⟩ : ∃ F', F' = F := ⟨_, rfl⟩
    obtain ⟨wa, hwa⟩ : ∃ x, x = w4 := ⟨_, rfl⟩
    have HB := Lib.hid (show BagAt wa pb room B1 P1 (.slice A1 n1 c1) F1 by rw [hwa, hB1, hP1, ← hv1, hF1]; exact bagAt_ext HA.out HE3.out)
    have HBI := Lib.hid (show B1[at']? = some (t, ks) by rw [hB1]; exact hks)
    have HN1 := Lib.hid (show n = lenB B1 by rw [hB1]; exact HN.out)
    have HFL := Lib.hid (show flatB B1 = flatB bs by rw [hB1])
    have HNE' := Lib.hid (show ∀ b ∈ B1.set at' (t, ks ++ [k]), b.2 ≠ [] from fun b hb => by
      rcases List.mem_or_eq_of_mem_set hb with h | rfl
      · exact HNE.out b (by rw [← hB1]; exact h)
      · simp)
    have HKB := Lib.hid (show wa.heap[w.heap.size]? = some (.cells #[.int .i64 k.a, .int .i64 k.b, .int .i64 k.c] 36 (0, 0)) by rw [hwa]; exact HKB3.out)
    have HUA := Lib.hid (show Upd F w wa by rw [hwa]; exact upd_of_ext HE3.out)
    have HFF := Lib.hid (show ∀ b, b < w.heap.size → F1 b → F b by rw [hF1]; exact fun _ _ h => h)
    have FIN := Lib.hid (show ∀ w', BagM w' pb room (E ++ [(t, k)]) F1 → Upd F w w' → AddPost pb room E F (t, k) w (.returned (.int .i64 0)) w' from fun w' h5 h6 => ⟨0, rfl, by
      unfold addE
      rw [HOK.out, if_pos rfl]
      exact bagM_own h5 (fun b _ hb => .inl (by rw [hF1] at hb; exact hb)), h6⟩)
    rw [← hwa]
    clear hB1 hP1 hv1 hn1 hF1 hwa hks HA HAT HTH CF HE3 HKB3 HNE HN
    go_wp2
    have hg2' := rowE_cap HB.out.row
    obtain ⟨p, m, hp1, hp2, hp3⟩ := bag_at HB.out HBI.out
    obtain ⟨N0, hN0, hm0⟩ := hp2.map
    obtain ⟨g, hg1, hg2⟩ := rowE_some HB.out.row (fun e => by rw [e] at hp3; simp at hp3)
    subst hg1
    have hrc := row_ptr HB.out.row hp3
    have hgm : g ≠ m := by
      obtain ⟨_, cur, hc⟩ := rowE_block (g := g) HB.out.row rfl
      exact mapG_off hm0 hc
    have hpbm : pb ≠ m := mapG_off hm0 HB.out.blk
    have hpm : p ≠ m := mapG_off hm0 hp2.blk
    have hkm : w.heap.size ≠ m := mapG_off hm0 HKB.out
    have hpp : p ≠ pb := fun e => by
      have h5 := hp2.blk
      rw [e, HB.out.blk] at h5
      simp only [Option.some.injEq, Obj.cells.injEq] at h5
      exact absurd h5.2.1 (by decide)
    have hgp : g ≠ p := fun e => by
      obtain ⟨_, cur, hc⟩ := rowE_block (g := g) HB.out.row rfl
      rw [e, hp2.blk] at hc
      simp only [Option.some.injEq, Obj.cells.injEq] at hc
      exact absurd hc.2.1 (by decide)
    have hgpb : g ≠ pb := fun e => by
      obtain ⟨_, cur, hc⟩ := rowE_block (g := g) HB.out.row rfl
      rw [e, HB.out.blk] at hc
      simp only [Option.some.injEq, Obj.cells.injEq] at hc
      exact absurd hc.2.1 (by decide)
    have hkl : ks.length ≤ lenB B1 := by
      have h5 := lenB_set (ks' := []) HBI.out
      simp at h5
      omega
    have hatl1 : at' < n1 := by
      have h5 := (List.getElem?_eq_some_iff.1 hp3).1
      rw [hg2'.1]
      exact h5
    rw [← HN1.out] at hkl
    obtain ⟨cn, hcn⟩ : ∃ c, c = ks.count k := ⟨_, rfl⟩
    have hcl : cn ≤ ks.length := by rw [hcn]; exact List.count_le_length
    have hget : (cntF ks k).getD 0 = (cn : Int) := by rw [cntF_getD, hcn]
    obtain ⟨C, hC⟩ : ∃ C : World → Prop, ∀ x, C x ↔ (Upd (fun b => b = m) wa x ∧ ∃ N f, MapC m N f x ∧ (∀ y, y ≠ k → f y = cntF ks y) ∧ (f k).getD 0 = (cn : Int)) := ⟨_, fun _ => Iff.rfl⟩
    have hCE : ∀ a b, C a → Ext a b → C b := fun a b ha hE => (hC b).2 ⟨upd_trans ((hC a).1 ha).1 (upd_of_ext (fp := fun _ => False) hE) (fun _ _ h => h.elim), by
      obtain ⟨_, N, f, h1, h2⟩ := (hC a).1 ha
      exact ⟨N, f, mapG_ext h1 hE, h2⟩⟩
    have hCW : C wa := (hC wa).2 ⟨upd_refl, N0, _, hm0, fun _ _ => rfl, hget⟩
    haveI : Nonempty (CW C) := ⟨⟨wa, hCW⟩⟩
    have u0 : ∀ x : CW C, x.val.cell? ⟨pb, 0, none⟩ = some (.slice (some ⟨g, 0, none⟩) n1 c1) := fun x => (upd_cell ((hC _).1 x.ok).1 (block_lt HB.out.blk) hpbm 0).trans (block_cell HB.out.blk 0)
    have u1 : ∀ x : CW C, x.val.cell? ⟨g, at', none⟩ = some (ptr p) := fun x => (upd_cell ((hC _).1 x.ok).1 hg2 hgm at').trans hrc
    have u2 : ∀ x : CW C, x.val.cell? ⟨p, 1, none⟩ = some (.map (some m)) := fun x => (upd_cell ((hC _).1 x.ok).1 (block_lt hp2.blk) hpm 1).trans (block_cell hp2.blk 1)
    have u3 : ∀ x : CW C, x.val.cell? ⟨w.heap.size, 0, none⟩ = some (.int .i64 k.a) := fun x => (upd_cell ((hC _).1 x.ok).1 (block_lt HKB.out) hkm 0).trans (block_cell HKB.out 0)
    have u4 : ∀ x : CW C, x.val.cell? ⟨w.heap.size, 1, none⟩ = some (.int .i64 k.b) := fun x => (upd_cell ((hC _).1 x.ok).1 (block_lt HKB.out) hkm 1).trans (block_cell HKB.out 1)
    have u5 : ∀ x : CW C, x.val.cell? ⟨w.heap.size, 2, none⟩ = some (.int .i64 k.c) := fun x => (upd_cell ((hC _).1 x.ok).1 (block_lt HKB.out) hkm 2).trans (block_cell HKB.out 2)
    have ulk : ∀ x : CW C, (Instr.lookup 52 (.map (some m)) (.agg #[.int .i64 k.a, .int .i64 k.b, .int .i64 k.c]) false).run Try.prog x.val = .ok (.int .i64 (cn : Int)) x.val := fun x => by
      obtain ⟨_, N, f, h1, _, h2⟩ := (hC _).1 x.ok
      have h3 := look_G Try.underlying52 h1 (x := k) HK.out
      have h4 : (f k).getD etI.zero = (cn : Int) := h2
      rw [h4] at h3
      exact h3
    have hw1 : IntKind.i64.wrap ((cn : Int) + 1) = (cn : Int) + 1 := IntWalk.i64_in _ (by omega)
    have hai : (at' : Int) < (n1 : Int) := by omega
    have ha0 : (0 : Int) ≤ (at' : Int) := by omega
    have HGET := Lib.hid hget
    have HM0 := Lib.hid hm0
    have HP2 := Lib.hid hp2
    have HP1 := Lib.hid hp1
    have HCC := Lib.hid hC
    have HCN := Lib.hid hcn
    have HRC := Lib.hid hrc
    have HNE1 := Lib.hid (show g ≠ m ∧ pb ≠ m ∧ p ≠ m ∧ p ≠ pb ∧ g ≠ p ∧ g ≠ pb from ⟨hgm, hpbm, hpm, hpp, hgp, hgpb⟩)
    clear hget hm0 hp2 hp1 hp3 hrc hC hcn hgm hpbm hpm hkm hpp hgp hgpb hg2'
    refine wp_region_chn hCE hCW [] [0, 1, 2, 3, 4, 5, 6, 7, 8, 9, 10, 11, 12] [(13, fun v w' => ∃ (born N' : Nat), v = .tuple #[.int .i64 (cn : Int), .int .i64 (born : Int)] ∧ EntAt m (k3 k) born w' ∧ MapC m N' (fun z => if z = k then some (cn : Int) else cntF ks z) w'), (14, fun v w' => ∃ (born N' : Nat), v = .int .i64 (born : Int) ∧ EntAt m (k3 k) born w' ∧ MapC m N' (fun z => if z = k then some (cn : Int) else cntF ks z) w')] [15] [13, 14] rfl (by kernel_rfl) (by kernel_rfl) (by kernel_rfl) (fun _ _ d _ _ h => by cases d <;> exact h) ?_
    refine wpPre_nil ?_
    repeat (refine wpC_step rfl (fun K hK => ?_); (try simp only [Oper.quietAt, Oper.quietUpon]); go_simp; (refine hK _ ?_; clear hK K))
    refine wpC_nil ?_
    clear u0 u1 u2 u3 u4 u5 ulk
    refine wpCh_step rfl rfl (fun v a b hE hR => ?_) (fun w6 hC6 _ => ?_) (fun v13 => ?_)
    · obtain ⟨born, N', h1, h3, h4⟩ := hR
      exact ⟨born, N', h1, entAt_block h3 (ext_block hE (mapG_lt h4)), mapG_ext h4 hE⟩
    · obtain ⟨hU6, N6, f6, hm6, hf6, hg6⟩ := (HCC.out _).1 hC6
      have hN6 := cnt_near hm6 hf6
      have h8 : (f6 k).getD etI.zero = (cn : Int) := hg6
      refine runs_entry_G (K := ktK) (E := etI) (.tmp 64) (.tmp 65) rfl Try.underlying52 rfl hm6 (by unfold maxLen; omega) (y := k) rfl HK.out (by rw [h8]; exact okI_iff.2 (by omega)) (fun born w1 r1 r2 r3 => ?_)
      rw [h8] at r1 ⊢
      have r4 := mapG_congr r1 (f' := fun z => if z = k then some (cn : Int) else cntF ks z) (fun x => by
        by_cases e : x = k
        · simp [e]
        · simp [e, hf6 x e]) rfl
      refine ⟨(HCC.out w1).2 ⟨upd_trans hU6 (upd_grown r3) (fun _ _ e => (Option.some.inj e).symm), _, _, r4, fun y hy => by simp [hy], by simp⟩, born, _, rfl, r2, r4⟩
    refine wpCh_step rfl rfl (fun v a b hE hR => ?_) (fun w6 hC6 hR6 => ?_) (fun v14 => ?_)
    · obtain ⟨born, N', h1, h3, h4⟩ := hR
      exact ⟨born, N', h1, entAt_block h3 (ext_block hE (mapG_lt h4)), mapG_ext h4 hE⟩
    · obtain ⟨born, N', rfl, h3, h4⟩ := hR6
      simp only [runsAt]
      go_simp
      first | exact ⟨hC6, born, rfl, h3, N', h4⟩ | exact ⟨hC6, born, rfl, N', h3, h4⟩ | exact ⟨hC6, h3, N', h4⟩ | exact ⟨hC6, N', h3, h4⟩
    refine wpCh_nil (fun w6 hC6 hR6 => ?_)
    · obtain ⟨born, N', rfl, r2, r3⟩ := hR6
      have hN' := cnt_near r3 (ks := ks) (k := k) (fun y hy => by simp [hy])
      obtain ⟨w7, hes, r4, r5⟩ := entStore_G (ty := 52) (c := ((cn : Int) + 1 : Int)) Try.underlying52 r3 (by unfold maxLen; omega) HK.out r2 (okI_iff.2 (by omega))
      have hes' : (Instr.entryStore 52 (.map (some m)) (.int .i64 (born : Int)) (.int .i64 ((cn : Int) + 1))).run Try.prog w6 = .ok () w7 := hes
      have hU7 : Upd (fun b => b = m) wa w7 := upd_trans ((HCC.out _).1 hC6).1 (upd_grown r5) (fun _ _ e => (Option.some.inj e).symm)
      have HU7 := Lib.hid hU7
      have HADD : ∀ x, (fun z => if z = k then some ((cn : Int) + 1) else (fun z => if z = k then some (cn : Int) else cntF ks z) z) x = cntF (ks ++ [k]) x := fun x => by
        rw [cntF_add]
        by_cases e : x = k
        · subst e; simp [HCN.out]
        · simp [e]
      have HM7 := Lib.hid (show ∃ N, N ≤ (ks ++ [k]).length ∧ MapC m N (cntF (ks ++ [k])) w7 from ⟨_, cntF_bound (mapG_congr r4 HADD rfl), mapG_congr r4 HADD rfl⟩)
      have hpb7 := (hU7.block pb (block_lt HB.out.blk) HNE1.out.2.1).trans HB.out.blk
      have hp7 := (hU7.block p (block_lt HP2.out.blk) HNE1.out.2.2.1).trans HP2.out.blk
      rw [← HN1.out] at hpb7
      have HPB7 := Lib.hid hpb7
      have HP7 := Lib.hid hp7
      have x0 := block_cell hpb7 0
      have x3 : w7.cell? ⟨pb, 2, none⟩ = some (.int .i64 (n : Int)) := block_cell hpb7 2
      have f3 := block_frozen hpb7 2
      have x2 : w7.cell? ⟨p, 2, none⟩ = some (.int .i64 (ks.length : Int)) := block_cell hp7 2
      have f2 := block_frozen hp7 2
      have x1 : w7.cell? ⟨g, at', none⟩ = some (ptr p) := (upd_cell hU7 hg2 HNE1.out.1 at').trans HRC.out
      have lp7 := block_lt hpb7
      have lq7 := block_lt hp7
      have lg7 : g < w7.heap.size := Nat.lt_of_lt_of_le hg2 hU7.size
      have hset := (fun (u : Value) => (upd_setCell (w := w7) (a := ⟨p, 2, none⟩) u).block pb lp7 (fun e => HNE1.out.2.2.2.1 e.symm))
      have z0 : ∀ u, (w7.setCell ⟨p, 2, none⟩ u).cell? ⟨pb, 2, none⟩ = some (.int .i64 (n : Int)) := fun u => block_cell ((hset u).trans HPB7.out) 2
      have z1 : ∀ u, (w7.setCell ⟨p, 2, none⟩ u).frozen? ⟨pb, 2, none⟩ = false := fun u => block_frozen ((hset u).trans HPB7.out) 2
      have hw2 : IntKind.i64.wrap ((ks.length : Int) + 1) = (ks.length : Int) + 1 := IntWalk.i64_in _ (by omega)
      have hw3 : IntKind.i64.wrap ((n : Int) + 1) = (n : Int) + 1 := IntWalk.i64_in _ (by omega)
      have HSET := Lib.hid hset
      clear HADD hes r4 r5 r2 r3 hU7 hpb7 hp7 hC6 hset
      refine wpSeq_of_list [15] [_] _ _ rfl ?_
      go_wp2
      refine bodyPost_ret (results_tmp rfl _ _ _) rfl ?_
      obtain ⟨w9, hw9⟩ : ∃ w9, w9 = (w7.setCell ⟨p, 2, none⟩ (.int .i64 ((ks.length : Int) + 1))).setCell ⟨pb, 2, none⟩ (.int .i64 ((n : Int) + 1)) := ⟨_, rfl⟩
      have hU9 : Upd (fun b => b = m ∨ b = p ∨ b = pb) wa w9 := by
        rw [hw9]
        refine upd_trans (upd_mono HU7.out (fun _ _ e => .inl e)) (upd_trans (fp := fun b => b = p ∨ b = pb) (upd_mono (upd_setCell (a := ⟨p, 2, none⟩) _) (fun _ _ e => .inl e)) (upd_setCell (a := ⟨pb, 2, none⟩) _) (fun _ _ e => .inr e)) (fun _ _ e => .inr e)
      have hb9 : w9.heap[pb]? = some (.cells #[.slice (some ⟨g, 0, none⟩) n1 c1, .int .i64 room, .int .i64 ((n : Int) + 1)] 47 (0, 0)) := by
        rw [hw9]
        exact heap_setCell_at (j := 2) (u := .int .i64 ((n : Int) + 1)) ((HSET.out _).trans HPB7.out)
      have hp9 : w9.heap[p]? = some (.cells #[.int .i64 t, .map (some m), .int .i64 ((ks.length : Int) + 1)] 54 (0, 0)) := by
        rw [hw9]
        have h5 := heap_setCell_at (j := 2) (u := .int .i64 ((ks.length : Int) + 1)) HP7.out
        exact ((upd_setCell (a := ⟨pb, 2, none⟩) _).block p (block_lt h5) HNE1.out.2.2.2.1).trans h5
      have hm9 : ∃ N, N ≤ (ks ++ [k]).length ∧ MapC m N (cntF (ks ++ [k])) w9 := by
        obtain ⟨N, h5, h6⟩ := HM7.out
        refine ⟨N, h5, ?_⟩
        rw [hw9]
        exact mapG_upd (mapG_upd h6 (upd_setCell (a := ⟨p, 2, none⟩) _) (fun e => HNE1.out.2.2.1 (show p = m from e.symm))) (upd_setCell (a := ⟨pb, 2, none⟩) _) (fun e => HNE1.out.2.1 (show pb = m from e.symm))
      have hl9 : lenB (B1.set at' (t, ks ++ [k])) = n + 1 := by
        have h5 := lenB_set (ks' := ks ++ [k]) HBI.out
        rw [List.length_append, ← HN1.out] at h5
        simp at h5
        omega
      rw [← hw9]
      have hbag := bag_turn (ks' := ks ++ [k]) HB.out HBI.out HP1.out hU9 (by rw [List.length_append]; exact hp9) (by rw [hl9]; exact hb9) hm9 (fun x hx => by
        rcases List.mem_append.1 hx with h | h
        · exact HP2.out.okk x h
        · rw [List.mem_singleton.1 h]; exact HK.out)
      exact FIN.out w9 ⟨B1.set at' (t, ks ++ [k]), P1, _, hbag, (List.Perm.append_right [(t, k)] (HP.out.trans (by rw [HFL.out]))).trans (add_there k HBI.out).symm, fun b hb => HNE'.out b hb⟩ (upd_trans HUA.out (upd_mono hU9 (fun b _ e => (show b = m ∨ b = p ∨ b = pb → F1 b from fun e => by
          rcases e with rfl | rfl | rfl
          · exact (HB.out.own.2.2 _ (List.mem_of_getElem? HP1.out)).2
          · exact (HB.out.own.2.2 _ (List.mem_of_getElem? HP1.out)).1
          · exact HB.out.own.1) e)) (fun b hb e => HFF.out b hb e))
  | false =>
    have HTH := Lib.hid hth
    clear hat hth
    have hno : ∀ b, bs[idxB bs t]? = some b → b.1 ≠ t := fun b hb e => by
      have h5 := HTH.out
      unfold thereB at h5
      rw [hb] at h5
      simp only [decide_eq_false_iff_not] at h5
      exact h5 e
    have hpb4 := (ext_block HE3.out (block_lt HA.out.blk)).trans HA.out.blk
    have q0 := block_cell hpb4 0
    have l4 := block_lt hpb4
    have hmm := @run_makeMap Try.prog
    go_wp2_with fail
    clear hmm q0 l4
    obtain ⟨mb, hmb⟩ : ∃ b, b = w4.heap.size := ⟨_, rfl⟩
    obtain ⟨p0, hp0⟩ : ∃ b, b = w4.heap.size + 1 := ⟨_, rfl⟩
    obtain ⟨nb, hnb⟩ : ∃ b, b = w4.heap.size + 1 + 1 := ⟨_, rfl⟩
    rw [← hnb, ← hp0, ← hmb]
    obtain ⟨Wx, hWx⟩ : ∃ W, W = ((w4.alloc (.map #[] 0)).alloc (.cells #[.int .i64 t, .map (some mb), .int .i64 0] 54)).alloc (.cells #[ptr p0] 51) := ⟨_, rfl⟩
    have hEx : Ext w4 Wx := by rw [hWx]; exact ext_alloc (ext_alloc (ext_alloc (ext_refl _) _) _) _
    have g0 : MapC mb 0 (fun _ => none) Wx := by
      rw [hWx, hmb]
      exact mapG_ext (mapG_made ktK etI w4) (ext_alloc (ext_alloc (ext_refl _) _) _)
    have g1 : Wx.heap[p0]? = some (.cells #[.int .i64 t, .map (some mb), .int .i64 0] 54 (0, 0)) := by
      rw [hWx, hp0]
      exact (heap_three w4 _ _ _).2.1
    have g2 : Wx.heap[nb]? = some (.cells #[ptr p0] 51 (0, 0)) := by
      rw [hWx, hnb]
      exact (heap_three w4 _ _ _).2.2
    rw [← hWx]
    have hs4 := ext_size HE3.out
    have hEw := ext_trans HE3.out hEx
    have hvo : v.ownBlock ≠ some nb := fun e => by
      have h5 := (rowE_block HA.out.row e).1
      omega
    refine (insert_any v (ps.map (·.1)) at' p0 nb 1 Wx (rowE_ext HA.out.row hEw) (by rw [List.length_map, HA.out.len]; omega) (by rw [List.length_map, HA.out.len]; exact hatl) g2 hvo).mono ?_
    rintro e w5 ⟨v5, rfl, hrow5, hU5, hown5⟩
    obtain ⟨A1, c1, hv5⟩ := rowE_form hrow5
    obtain ⟨n1, hn1⟩ : ∃ n, n = (insAt (ps.map (·.1)) at' p0).length := ⟨_, rfl⟩
    rw [← hn1] at hv5
    subst hv5
    have hvb : ∀ b, v.ownBlock = some b → ∀ cur t' fr, w.heap[b]? = some (.cells cur t' fr) → t' = 51 := fun b hb cur t' fr hc => by
      obtain ⟨_, cur', h5⟩ := rowE_block HA.out.row hb
      rw [h5] at hc
      simp only [Option.some.injEq, Obj.cells.injEq] at hc
      exact hc.2.1.symm
    have hvw : ∀ b, v.ownBlock = some b → b < w.heap.size := fun b hb => (rowE_block HA.out.row hb).1
    have hvpb : v.ownBlock ≠ some pb := fun e => absurd (hvb pb e _ _ _ HA.out.blk) (by decide)
    have hlpb := block_lt HA.out.blk
    have hpb5 : w5.heap[pb]? = some (.cells #[v, .int .i64 room, .int .i64 (lenB bs : Int)] 47 (0, 0)) := (hU5.block pb (ext_lt hEw hlpb) (fun e => hvpb e)).trans ((ext_block hEw hlpb).trans HA.out.blk)
    have x0 := block_cell hpb5 0
    have f0 := block_frozen hpb5 0
    have l5 := block_lt hpb5
    have HPB5 := Lib.hid hpb5
    obtain ⟨wa, hwa⟩ : ∃ x, x = w5.setCell ⟨pb, 0, none⟩ (.slice A1 n1 c1) := ⟨_, rfl⟩
    have hU6 : Upd (fun b => b = pb) w5 wa := by rw [hwa]; exact upd_setCell (a := ⟨pb, 0, none⟩) _
    obtain ⟨ks, hks⟩ : ∃ ks : List Key, ks = [] := ⟨_, rfl⟩
    obtain ⟨B1, hB1⟩ : ∃ B, B = bs.take (idxB bs t) ++ (t, ks) :: bs.drop (idxB bs t) := ⟨_, rfl⟩
    obtain ⟨P1, hP1⟩ : ∃ P, P = ps.take (idxB bs t) ++ (p0, mb) :: ps.drop (idxB bs t) := ⟨_, rfl⟩
    obtain ⟨F1, hF1⟩ : ∃ F', F' = fun b => F b ∨ w.heap.size ≤ b := ⟨_, rfl⟩
    have hp5 : w5.heap[p0]? = some (.cells #[.int .i64 t, .map (some mb), .int .i64 0] 54 (0, 0)) := (hU5.block p0 (block_lt g1) (fun e => by have := hvw _ e; omega)).trans g1
    have hma : MapC mb 0 (fun _ => none) wa := mapG_upd (mapG_upd g0 hU5 (fun e => by have := hvw _ e; omega)) hU6 (fun e => by have e' : mb = pb := e; omega)
    have hpa : wa.heap[p0]? = some (.cells #[.int .i64 t, .map (some mb), .int .i64 0] 54 (0, 0)) := (hU6.block p0 (block_lt hp5) (fun e => by have e' : p0 = pb := e; omega)).trans hp5
    have hUw : Upd (fun b => v.ownBlock = some b ∨ b = pb) w wa := upd_trans (upd_trans (upd_of_ext hEw) hU5 (fun _ _ e => .inl e)) hU6 (fun _ _ e => .inr e)
    have hbag : BagAt wa pb room (bs.take (idxB bs t) ++ (t, []) :: bs.drop (idxB bs t)) P1 (.slice A1 n1 c1) F1 := by
      rw [hP1]
      have hlt := bagAt_lt HA.out
      refine bagAt_ins HA.out hno ?_ ?_ (fun x hx b hB => ?_) ⟨hpa, ⟨0, Nat.zero_le _, by rw [cntF_nil]; exact hma⟩, HT.out, fun k hk => by cases hk⟩ (fun x hx e => ?_) (fun x hx e => ?_) ?_
      · rw [hwa]
        exact heap_setCell_at (j := 0) (u := .slice A1 n1 c1) hpb5
      · rw [HAT.out] at hrow5
        refine rowE_upd hrow5 hU6 (fun b hb e => ?_)
        obtain ⟨_, cur, hc⟩ := rowE_block hrow5 hb
        rw [show b = pb from e, hpb5] at hc
        simp only [Option.some.injEq, Obj.cells.injEq] at hc
        exact absurd hc.2.1 (by decide)
      · obtain ⟨N, _, hmx⟩ := hB.map
        refine bkAt_upd hB hUw ?_ ?_
        · rintro (e | e)
          · exact absurd (hvb _ e _ _ _ hB.blk) (by decide)
          · have h5 := hB.blk
            rw [e, HA.out.blk] at h5
            simp only [Option.some.injEq, Obj.cells.injEq] at h5
            exact absurd h5.2.1 (by decide)
        · rintro (e | e)
          · obtain ⟨_, cur, hc⟩ := rowE_block HA.out.row e
            exact mapG_off hmx hc rfl
          · exact mapG_off hmx HA.out.blk e.symm
      · have := (hlt x hx).1; omega
      · have := (hlt x hx).2; omega
      · rw [hF1]
        refine ⟨.inl HA.out.own.1, fun g hg => ?_, .inr (by omega), .inr (by omega), fun x hx => ⟨.inl (HA.out.own.2.2 x hx).1, .inl (HA.out.own.2.2 x hx).2⟩⟩
        rcases hown5 with e | ⟨g', e, h6⟩
        · exact .inl (HA.out.own.2.1 g (by rw [← e]; exact hg))
        · rw [e] at hg
          cases hg
          have := ext_size hEw
          exact .inr (by omega)
    rw [← hks, ← hB1] at hbag
    have hil := idxB_le bs t
    have HB := Lib.hid hbag
    have HBI := Lib.hid (show B1[at']? = some (t, ks) by
      rw [hB1, HAT.out, ins_at hil, if_neg (by omega), if_pos rfl])
    have HN1 := Lib.hid (show n = lenB B1 by rw [hB1, hks, lenB_ins]; exact HN.out)
    have HFL := Lib.hid (show flatB B1 = flatB bs by rw [hB1, hks, flat_ins])
    have HNE' := Lib.hid (show ∀ b ∈ B1.set at' (t, ks ++ [k]), b.2 ≠ [] from fun b hb => by
      rw [set_split HBI.out, hB1, HAT.out] at hb
      have ht1 : (bs.take (idxB bs t)).length = idxB bs t := by rw [List.length_take]; omega
      rcases List.mem_append.1 hb with h | h
      · rw [List.take_append_of_le_length (by rw [ht1]; exact Nat.le_refl _), List.take_take, Nat.min_self] at h
        exact HNE.out b (List.mem_of_mem_take h)
      · rcases List.mem_cons.1 h with rfl | h
        · simp
        · rw [List.drop_append, ht1, List.drop_eq_nil_of_le (by rw [ht1]; omega), show idxB bs t + 1 - idxB bs t = 1 by omega] at h
          simp only [List.nil_append, List.drop_succ_cons, List.drop_zero] at h
          exact HNE.out b (List.mem_of_mem_drop h))
    have HKB := Lib.hid (show wa.heap[w.heap.size]? = some (.cells #[.int .i64 k.a, .int .i64 k.b, .int .i64 k.c] 36 (0, 0)) by
      have h5 := (ext_block hEx (block_lt HKB3.out)).trans HKB3.out
      have h6 := (hU5.block w.heap.size (block_lt h5) (fun e => by have := hvw _ e; omega)).trans h5
      exact (hU6.block w.heap.size (block_lt h6) (fun e => by have e' : w.heap.size = pb := e; omega)).trans h6)
    have HUA := Lib.hid (show Upd F w wa from upd_mono hUw (fun b _ e => by
      rcases e with e | rfl
      · exact HA.out.own.2.1 b e
      · exact HA.out.own.1))
    have HFF := Lib.hid (show ∀ b, b < w.heap.size → F1 b → F b by
      rw [hF1]
      rintro b hb (h | h)
      · exact h
      · omega)
    have FIN := Lib.hid (show ∀ w', BagM w' pb room (E ++ [(t, k)]) F1 → Upd F w w' → AddPost pb room E F (t, k) w (.returned (.int .i64 0)) w' from fun w' h5 h6 => ⟨0, rfl, by
      unfold addE
      rw [HOK.out, if_pos rfl]
      exact bagM_own h5 (fun b _ hb => by rw [hF1] at hb; exact hb), h6⟩)
    clear hbag hB1 hP1 hF1 hks HA HAT HTH CF HE3 HKB3 HNE HN hno hpb4 g0 g1 g2 hs4 hEw hvo hrow5 hU5 hown5 hvb hvw hvpb hlpb hpb5 hp5 hma hpa hUw hil hEx hWx hmb hp0 hnb hU6 hn1
    go_wp2
    rw [← hwa]
    clear hwa x0 f0 l5 HPB5
    have hg2' := rowE_cap HB.out.row
    obtain ⟨p, m, hp1, hp2, hp3⟩ := bag_at HB.out HBI.out
    obtain ⟨N0, hN0, hm0⟩ := hp2.map
    obtain ⟨g, hg1, hg2⟩ := rowE_some HB.out.row (fun e => by rw [e] at hp3; simp at hp3)
    subst hg1
    have hrc := row_ptr HB.out.row hp3
    have hgm : g ≠ m := by
      obtain ⟨_, cur, hc⟩ := rowE_block (g := g) HB.out.row rfl
      exact mapG_off hm0 hc
    have hpbm : pb ≠ m := mapG_off hm0 HB.out.blk
    have hpm : p ≠ m := mapG_off hm0 hp2.blk
    have hkm : w.heap.size ≠ m := mapG_off hm0 HKB.out
    have hpp : p ≠ pb := fun e => by
      have h5 := hp2.blk
      rw [e, HB.out.blk] at h5
      simp only [Option.some.injEq, Obj.cells.injEq] at h5
      exact absurd h5.2.1 (by decide)
    have hgp : g ≠ p := fun e => by
      obtain ⟨_, cur, hc⟩ := rowE_block (g := g) HB.out.row rfl
      rw [e, hp2.blk] at hc
      simp only [Option.some.injEq, Obj.cells.injEq] at hc
      exact absurd hc.2.1 (by decide)
    have hgpb : g ≠ pb := fun e => by
      obtain ⟨_, cur, hc⟩ := rowE_block (g := g) HB.out.row rfl
      rw [e, HB.out.blk] at hc
      simp only [Option.some.injEq, Obj.cells.injEq] at hc
      exact absurd hc.2.1 (by decide)
    have hkl : ks.length ≤ lenB B1 := by
      have h5 := lenB_set (ks' := []) HBI.out
      simp at h5
      omega
    have hatl1 : at' < n1 := by
      have h5 := (List.getElem?_eq_some_iff.1 hp3).1
      rw [hg2'.1]
      exact h5
    rw [← HN1.out] at hkl
    obtain ⟨cn, hcn⟩ : ∃ c, c = ks.count k := ⟨_, rfl⟩
    have hcl : cn ≤ ks.length := by rw [hcn]; exact List.count_le_length
    have hget : (cntF ks k).getD 0 = (cn : Int) := by rw [cntF_getD, hcn]
    obtain ⟨C, hC⟩ : ∃ C : World → Prop, ∀ x, C x ↔ (Upd (fun b => b = m) wa x ∧ ∃ N f, MapC m N f x ∧ (∀ y, y ≠ k → f y = cntF ks y) ∧ (f k).getD 0 = (cn : Int)) := ⟨_, fun _ => Iff.rfl⟩
    have hCE : ∀ a b, C a → Ext a b → C b := fun a b ha hE => (hC b).2 ⟨upd_trans ((hC a).1 ha).1 (upd_of_ext (fp := fun _ => False) hE) (fun _ _ h => h.elim), by
      obtain ⟨_, N, f, h1, h2⟩ := (hC a).1 ha
      exact ⟨N, f, mapG_ext h1 hE, h2⟩⟩
    have hCW : C wa := (hC wa).2 ⟨upd_refl, N0, _, hm0, fun _ _ => rfl, hget⟩
    haveI : Nonempty (CW C) := ⟨⟨wa, hCW⟩⟩
    have u0 : ∀ x : CW C, x.val.cell? ⟨pb, 0, none⟩ = some (.slice (some ⟨g, 0, none⟩) n1 c1) := fun x => (upd_cell ((hC _).1 x.ok).1 (block_lt HB.out.blk) hpbm 0).trans (block_cell HB.out.blk 0)
    have u1 : ∀ x : CW C, x.val.cell? ⟨g, at', none⟩ = some (ptr p) := fun x => (upd_cell ((hC _).1 x.ok).1 hg2 hgm at').trans hrc
    have u2 : ∀ x : CW C, x.val.cell? ⟨p, 1, none⟩ = some (.map (some m)) := fun x => (upd_cell ((hC _).1 x.ok).1 (block_lt hp2.blk) hpm 1).trans (block_cell hp2.blk 1)
    have u3 : ∀ x : CW C, x.val.cell? ⟨w.heap.size, 0, none⟩ = some (.int .i64 k.a) := fun x => (upd_cell ((hC _).1 x.ok).1 (block_lt HKB.out) hkm 0).trans (block_cell HKB.out 0)
    have u4 : ∀ x : CW C, x.val.cell? ⟨w.heap.size, 1, none⟩ = some (.int .i64 k.b) := fun x => (upd_cell ((hC _).1 x.ok).1 (block_lt HKB.out) hkm 1).trans (block_cell HKB.out 1)
    have u5 : ∀ x : CW C, x.val.cell? ⟨w.heap.size, 2, none⟩ = some (.int .i64 k.c) := fun x => (upd_cell ((hC _).1 x.ok).1 (block_lt HKB.out) hkm 2).trans (block_cell HKB.out 2)
    have ulk : ∀ x : CW C, (Instr.lookup 52 (.map (some m)) (.agg #[.int .i64 k.a, .int .i64 k.b, .int .i64 k.c]) false).run Try.prog x.val = .ok (.int .i64 (cn : Int)) x.val := fun x => by
      obtain ⟨_, N, f, h1, _, h2⟩ := (hC _).1 x.ok
      have h3 := look_G Try.underlying52 h1 (x := k) HK.out
      have h4 : (f k).getD etI.zero = (cn : Int) := h2
      rw [h4] at h3
      exact h3
    have hw1 : IntKind.i64.wrap ((cn : Int) + 1) = (cn : Int) + 1 := IntWalk.i64_in _ (by omega)
    have hai : (at' : Int) < (n1 : Int) := by omega
    have ha0 : (0 : Int) ≤ (at' : Int) := by omega
    have HGET := Lib.hid hget
    have HM0 := Lib.hid hm0
    have HP2 := Lib.hid hp2
    have HP1 := Lib.hid hp1
    have HCC := Lib.hid hC
    have HCN := Lib.hid hcn
    have HRC := Lib.hid hrc
    have HNE1 := Lib.hid (show g ≠ m ∧ pb ≠ m ∧ p ≠ m ∧ p ≠ pb ∧ g ≠ p ∧ g ≠ pb from ⟨hgm, hpbm, hpm, hpp, hgp, hgpb⟩)
    clear hget hm0 hp2 hp1 hp3 hrc hC hcn hgm hpbm hpm hkm hpp hgp hgpb hg2'
    refine wp_region_chn hCE hCW [] [0, 1, 2, 3, 4, 5, 6, 7, 8, 9, 10, 11, 12] [(13, fun v w' => ∃ (born N' : Nat), v = .tuple #[.int .i64 (cn : Int), .int .i64 (born : Int)] ∧ EntAt m (k3 k) born w' ∧ MapC m N' (fun z => if z = k then some (cn : Int) else cntF ks z) w'), (14, fun v w' => ∃ (born N' : Nat), v = .int .i64 (born : Int) ∧ EntAt m (k3 k) born w' ∧ MapC m N' (fun z => if z = k then some (cn : Int) else cntF ks z) w')] [15] [13, 14] rfl (by kernel_rfl) (by kernel_rfl) (by kernel_rfl) (fun _ _ d _ _ h => by cases d <;> exact h) ?_
    refine wpPre_nil ?_
    repeat (refine wpC_step rfl (fun K hK => ?_); (try simp only [Oper.quietAt, Oper.quietUpon]); go_simp; (refine hK _ ?_; clear hK K))
    refine wpC_nil ?_
    clear u0 u1 u2 u3 u4 u5 ulk
    refine wpCh_step rfl rfl (fun v a b hE hR => ?_) (fun w6 hC6 _ => ?_) (fun v13 => ?_)
    · obtain ⟨born, N', h1, h3, h4⟩ := hR
      exact ⟨born, N', h1, entAt_block h3 (ext_block hE (mapG_lt h4)), mapG_ext h4 hE⟩
    · obtain ⟨hU6, N6, f6, hm6, hf6, hg6⟩ := (HCC.out _).1 hC6
      have hN6 := cnt_near hm6 hf6
      have h8 : (f6 k).getD etI.zero = (cn : Int) := hg6
      refine runs_entry_G (K := ktK) (E := etI) (.tmp 64) (.tmp 65) rfl Try.underlying52 rfl hm6 (by unfold maxLen; omega) (y := k) rfl HK.out (by rw [h8]; exact okI_iff.2 (by omega)) (fun born w1 r1 r2 r3 => ?_)
      rw [h8] at r1 ⊢
      have r4 := mapG_congr r1 (f' := fun z => if z = k then some (cn : Int) else cntF ks z) (fun x => by
        by_cases e : x = k
        · simp [e]
        · simp [e, hf6 x e]) rfl
      refine ⟨(HCC.out w1).2 ⟨upd_trans hU6 (upd_grown r3) (fun _ _ e => (Option.some.inj e).symm), _, _, r4, fun y hy => by simp [hy], by simp⟩, born, _, rfl, r2, r4⟩
    refine wpCh_step rfl rfl (fun v a b hE hR => ?_) (fun w6 hC6 hR6 => ?_) (fun v14 => ?_)
    · obtain ⟨born, N', h1, h3, h4⟩ := hR
      exact ⟨born, N', h1, entAt_block h3 (ext_block hE (mapG_lt h4)), mapG_ext h4 hE⟩
    · obtain ⟨born, N', rfl, h3, h4⟩ := hR6
      simp only [runsAt]
      go_simp
      first | exact ⟨hC6, born, rfl, h3, N', h4⟩ | exact ⟨hC6, born, rfl, N', h3, h4⟩ | exact ⟨hC6, h3, N', h4⟩ | exact ⟨hC6, N', h3, h4⟩
    refine wpCh_nil (fun w6 hC6 hR6 => ?_)
    · obtain ⟨born, N', rfl, r2, r3⟩ := hR6
      have hN' := cnt_near r3 (ks := ks) (k := k) (fun y hy => by simp [hy])
      obtain ⟨w7, hes, r4, r5⟩ := entStore_G (ty := 52) (c := ((cn : Int) + 1 : Int)) Try.underlying52 r3 (by unfold maxLen; omega) HK.out r2 (okI_iff.2 (by omega))
      have hes' : (Instr.entryStore 52 (.map (some m)) (.int .i64 (born : Int)) (.int .i64 ((cn : Int) + 1))).run Try.prog w6 = .ok () w7 := hes
      have hU7 : Upd (fun b => b = m) wa w7 := upd_trans ((HCC.out _).1 hC6).1 (upd_grown r5) (fun _ _ e => (Option.some.inj e).symm)
      have HU7 := Lib.hid hU7
      have HADD : ∀ x, (fun z => if z = k then some ((cn : Int) + 1) else (fun z => if z = k then some (cn : Int) else cntF ks z) z) x = cntF (ks ++ [k]) x := fun x => by
        rw [cntF_add]
        by_cases e : x = k
        · subst e; simp [HCN.out]
        · simp [e]
      have HM7 := Lib.hid (show ∃ N, N ≤ (ks ++ [k]).length ∧ MapC m N (cntF (ks ++ [k])) w7 from ⟨_, cntF_bound (mapG_congr r4 HADD rfl), mapG_congr r4 HADD rfl⟩)
      have hpb7 := (hU7.block pb (block_lt HB.out.blk) HNE1.out.2.1).trans HB.out.blk
      have hp7 := (hU7.block p (block_lt HP2.out.blk) HNE1.out.2.2.1).trans HP2.out.blk
      rw [← HN1.out] at hpb7
      have HPB7 := Lib.hid hpb7
      have HP7 := Lib.hid hp7
      have x0 := block_cell hpb7 0
      have x3 : w7.cell? ⟨pb, 2, none⟩ = some (.int .i64 (n : Int)) := block_cell hpb7 2
      have f3 := block_frozen hpb7 2
      have x2 : w7.cell? ⟨p, 2, none⟩ = some (.int .i64 (ks.length : Int)) := block_cell hp7 2
      have f2 := block_frozen hp7 2
      have x1 : w7.cell? ⟨g, at', none⟩ = some (ptr p) := (upd_cell hU7 hg2 HNE1.out.1 at').trans HRC.out
      have lp7 := block_lt hpb7
      have lq7 := block_lt hp7
      have lg7 : g < w7.heap.size := Nat.lt_of_lt_of_le hg2 hU7.size
      have hset := (fun (u : Value) => (upd_setCell (w := w7) (a := ⟨p, 2, none⟩) u).block pb lp7 (fun e => HNE1.out.2.2.2.1 e.symm))
      have z0 : ∀ u, (w7.setCell ⟨p, 2, none⟩ u).cell? ⟨pb, 2, none⟩ = some (.int .i64 (n : Int)) := fun u => block_cell ((hset u).trans HPB7.out) 2
      have z1 : ∀ u, (w7.setCell ⟨p, 2, none⟩ u).frozen? ⟨pb, 2, none⟩ = false := fun u => block_frozen ((hset u).trans HPB7.out) 2
      have hw2 : IntKind.i64.wrap ((ks.length : Int) + 1) = (ks.length : Int) + 1 := IntWalk.i64_in _ (by omega)
      have hw3 : IntKind.i64.wrap ((n : Int) + 1) = (n : Int) + 1 := IntWalk.i64_in _ (by omega)
      have HSET := Lib.hid hset
      clear HADD hes r4 r5 r2 r3 hU7 hpb7 hp7 hC6 hset
      refine wpSeq_of_list [15] [_] _ _ rfl ?_
      go_wp2
      refine bodyPost_ret (results_tmp rfl _ _ _) rfl ?_
      obtain ⟨w9, hw9⟩ : ∃ w9, w9 = (w7.setCell ⟨p, 2, none⟩ (.int .i64 ((ks.length : Int) + 1))).setCell ⟨pb, 2, none⟩ (.int .i64 ((n : Int) + 1)) := ⟨_, rfl⟩
      have hU9 : Upd (fun b => b = m ∨ b = p ∨ b = pb) wa w9 := by
        rw [hw9]
        refine upd_trans (upd_mono HU7.out (fun _ _ e => .inl e)) (upd_trans (fp := fun b => b = p ∨ b = pb) (upd_mono (upd_setCell (a := ⟨p, 2, none⟩) _) (fun _ _ e => .inl e)) (upd_setCell (a := ⟨pb, 2, none⟩) _) (fun _ _ e => .inr e)) (fun _ _ e => .inr e)
      have hb9 : w9.heap[pb]? = some (.cells #[.slice (some ⟨g, 0, none⟩) n1 c1, .int .i64 room, .int .i64 ((n : Int) + 1)] 47 (0, 0)) := by
        rw [hw9]
        exact heap_setCell_at (j := 2) (u := .int .i64 ((n : Int) + 1)) ((HSET.out _).trans HPB7.out)
      have hp9 : w9.heap[p]? = some (.cells #[.int .i64 t, .map (some m), .int .i64 ((ks.length : Int) + 1)] 54 (0, 0)) := by
        rw [hw9]
        have h5 := heap_setCell_at (j := 2) (u := .int .i64 ((ks.length : Int) + 1)) HP7.out
        exact ((upd_setCell (a := ⟨pb, 2, none⟩) _).block p (block_lt h5) HNE1.out.2.2.2.1).trans h5
      have hm9 : ∃ N, N ≤ (ks ++ [k]).length ∧ MapC m N (cntF (ks ++ [k])) w9 := by
        obtain ⟨N, h5, h6⟩ := HM7.out
        refine ⟨N, h5, ?_⟩
        rw [hw9]
        exact mapG_upd (mapG_upd h6 (upd_setCell (a := ⟨p, 2, none⟩) _) (fun e => HNE1.out.2.2.1 (show p = m from e.symm))) (upd_setCell (a := ⟨pb, 2, none⟩) _) (fun e => HNE1.out.2.1 (show pb = m from e.symm))
      have hl9 : lenB (B1.set at' (t, ks ++ [k])) = n + 1 := by
        have h5 := lenB_set (ks' := ks ++ [k]) HBI.out
        rw [List.length_append, ← HN1.out] at h5
        simp at h5
        omega
      rw [← hw9]
      have hbag := bag_turn (ks' := ks ++ [k]) HB.out HBI.out HP1.out hU9 (by rw [List.length_append]; exact hp9) (by rw [hl9]; exact hb9) hm9 (fun x hx => by
        rcases List.mem_append.1 hx with h | h
        · exact HP2.out.okk x h
        · rw [List.mem_singleton.1 h]; exact HK.out)
      exact FIN.out w9 ⟨B1.set at' (t, ks ++ [k]), P1, _, hbag, (List.Perm.append_right [(t, k)] (HP.out.trans (by rw [HFL.out]))).trans (add_there k HBI.out).symm, fun b hb => HNE'.out b hb⟩ (upd_trans HUA.out (upd_mono hU9 (fun b _ e => (show b = m ∨ b = p ∨ b = pb → F1 b from fun e => by
          rcases e with rfl | rfl | rfl
          · exact (HB.out.own.2.2 _ (List.mem_of_getElem? HP1.out)).2
          · exact (HB.out.own.2.2 _ (List.mem_of_getElem? HP1.out)).1
          · exact HB.out.own.1) e)) (fun b hb e => HFF.out b hb e))
theorem add_any (pb : Nat) (room : Int) (E : List Ev) (F : Nat → Prop) (t : Int) (k : Key) (w : World) (h : BagM w pb room E F) (hm : (E.length : Int) < room) (hr : room ≤ 100000) (hk : ok3 k) (ht : okI t) :
    Calls Try.prog 8 #[ptr pb, .int .i64 t, k3 k] w (AddPost pb room E F (t, k) w) := by
  by_cases h0 : k.a < 0 ∨ k.b < 0 ∨ k.c < 0
  · exact add_bad pb room E F t k w h h0
  · exact add_good pb room E F t k w h hm hr hk ht (by omega)
end Go.Proofs.Ytojgbphmkloicaa
