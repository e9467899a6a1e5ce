/- Remove. -/
import Derived.Test.YtojgbphmkloicaaBt
import Derived.Test.YtojgbphmkloicaaBv
import Derived.Test.YtojgbphmkloicaaBq
import Derived.Test.YtojgbphmkloicaaCj
import Derived.Test.YtojgbphmkloicaaGd
import Derived.Test.YtojgbphmkloicaaKe
namespace Go.Proofs.Ytojgbphmkloicaa
open Go Go.RowKit Go.Sort
set_option maxHeartbeats 4000000

def RemPost (pb : Nat) (room : Int) (E : List Ev) (F : Nat → Prop) (x : Ev) (w : World) (e : Ending) (w' : World) : Prop := ∃ c, e = .returned (.int .i64 c) ∧ BagM w' pb room (E.erase x) F ∧ Upd F w w'
theorem there_some {bs : List Bk} {t : Int} (h : thereB bs t = true) : ∃ ks, bs[idxB bs t]? = some (t, ks) := by
  unfold thereB at h
  cases hx : bs[idxB bs t]? with
  | none => rw [hx] at h; cases h
  | some b =>
    rw [hx] at h
    obtain ⟨t', ks⟩ := b
    exact ⟨ks, by rw [show t' = t from of_decide_eq_true h]⟩
theorem there_none {bs : List Bk} (hr : RiseB bs) {t : Int} {k : Key} (h : thereB bs t = false) : (t, k) ∉ flatB bs := fun hm => by
  obtain ⟨ks, h1, _⟩ := (find_there hr).1 hm
  unfold thereB at h
  rw [h1] at h
  simp at h
theorem set_ne {bs : List Bk} {i : Nat} {t : Int} {ks : List Key} (h : ∀ b ∈ bs, b.2 ≠ []) (hk : ks ≠ []) : ∀ b ∈ bs.set i (t, ks), b.2 ≠ [] := fun b hb => by
  rcases List.mem_or_eq_of_mem_set hb with h1 | rfl
  · exact h b h1
  · exact hk
theorem set_cut (bs : List Bk) (i : Nat) (b : Bk) : (bs.set i b).take i ++ (bs.set i b).drop (i + 1) = bs.take i ++ bs.drop (i + 1) := by
  rw [List.take_set_of_le (Nat.le_refl _), List.drop_set_of_lt (Nat.lt_succ_self _)]
theorem remove_any (pb : Nat) (room : Int) (E : List Ev) (F : Nat → Prop) (t : Int) (k : Key) (w : World) (h : BagM w pb room E F) (hm : E.length ≤ 100000) (hk : ok3 k) :
    Calls Try.prog 13 #[ptr pb, .int .i64 t, k3 k] w (RemPost pb room E F (t, k) w) := by
  obtain ⟨bs, ps, v, hA, hP, hNe⟩ := h
  have hlen : lenB bs = E.length := by rw [lenB_flat, hP.length_eq]
  have hbl : bs.length ≤ 100000 := by have := len_le_lenB hNe; omega
  obtain ⟨n, hn⟩ : ∃ n, n = lenB bs := ⟨_, rfl⟩
  have hn1 : n ≤ 100000 := by omega
  obtain ⟨W, hW⟩ : ∃ W, W = w.alloc (.cells #[.int .i64 k.a, .int .i64 k.b, .int .i64 k.c] 36) := ⟨_, rfl⟩
  have hE : Ext w W := by rw [hW]; exact ext_alloc (ext_refl _) _
  have hkb : W.heap[w.heap.size]? = some (.cells #[.int .i64 k.a, .int .i64 k.b, .int .i64 k.c] 36 (0, 0)) := by rw [hW]; exact heap_alloc_new _ _
  have hAW := bagAt_ext hA hE
  -- nothing is done
  have SAME := Lib.hid (show ∀ w', Ext w w' → (t, k) ∉ flatB bs → RemPost pb room E F (t, k) w (.returned (.int .i64 4)) w' from fun w' hE' hno => ⟨4, rfl, by
    rw [List.erase_of_not_mem (fun hm => hno (hP.mem_iff.1 hm))]
    exact ⟨bs, ps, v, bagAt_ext hA hE', hP, hNe⟩, upd_of_ext hE'⟩)
  have HE := Lib.hid hE
  have HKB := Lib.hid hkb
  have HAW := Lib.hid hAW
  have HP := Lib.hid hP
  have HNE := Lib.hid hNe
  have HN := Lib.hid hn
  have HK := Lib.hid hk
  have CF := Lib.hid (find_any pb room bs ps v F t W hAW (by omega))
  unfold k3
  clear hAW hA hP hNe hkb hE hlen hn hk hm
  go_enter Try.func13, Try.ntmps13
  go_wp2_with fail
  rw [← hW]
  clear hW
  refine CF.out.mono ?_
  rintro e w1 ⟨rfl, hw1⟩
  have hw2 := hw1.symm
  subst hw2
  clear hw1 CF
  obtain ⟨at', hat⟩ : ∃ i, i = idxB bs t := ⟨_, rfl⟩
  rw [← hat]
  have HAT := Lib.hid hat
  have hatl : at' ≤ bs.length := by rw [hat]; exact idxB_le bs t
  cases hth : thereB bs t with
  | false =>
    have HNO := Lib.hid (there_none (k := k) HAW.out.rise hth)
    clear hat hth
    have hgc := cell_grown
    go_wp2
    refine wp_region_free 17 [0, 1, 2, 3, 4, 5, 6, 7, 8, 9, 10, 11, 12, 13, 14, 15, 16] [] (by kernel_rfl) (by kernel_rfl) ?_
    repeat (refine wpLoose_step rfl (fun K hK => ?_); (try simp only [Oper.quietAt, Oper.quietUpon]); go_simp; (refine hK _ ?_; clear hK K))
    refine wpLoose_nil (wpFresh_nil (fun W3 hE3 _ => ?_))
    simp only [List.drop_succ_cons, List.drop_zero]
    have HE3 := Lib.hid (ext_trans HE.out hE3)
    clear hE3 hgc
    go_wp2
    refine bodyPost_ret (results_tmp rfl _ _ _) rfl ?_
    exact SAME.out _ HE3.out HNO.out
  | true =>
    obtain ⟨ks, hks⟩ := there_some hth
    rw [← hat] at hks
    have HBI := Lib.hid hks
    clear hat hth
    obtain ⟨p, m, hp1, hp2, hp3⟩ := bag_at HAW.out hks
    obtain ⟨N0, hN0, hm0⟩ := hp2.map
    obtain ⟨A1, c1, hv1⟩ := rowE_form HAW.out.row
    obtain ⟨n1, hn1⟩ : ∃ n, n = (ps.map (·.1)).length := ⟨_, rfl⟩
    rw [← hn1] at hv1
    subst hv1
    have hg2' := rowE_cap HAW.out.row
    obtain ⟨g, hg1, hg2⟩ := rowE_some HAW.out.row (fun e => by rw [e] at hp3; simp at hp3)
    subst hg1
    have hrc := row_ptr HAW.out.row hp3
    have hgm : g ≠ m := by
      obtain ⟨_, cur, hc⟩ := rowE_block (g := g) HAW.out.row rfl
      exact mapG_off hm0 hc
    have hpbm : pb ≠ m := mapG_off hm0 HAW.out.blk
    have hpm : p ≠ m := mapG_off hm0 hp2.blk
    have hkm : w.heap.size ≠ m := mapG_off hm0 HKB.out
    have hpp : p ≠ pb := fun e => by
      have h5 := hp2.blk
      rw [e, HAW.out.blk] at h5
      simp only [Option.some.injEq, Obj.cells.injEq] at h5
      exact absurd h5.2.1 (by decide)
    have hgp : g ≠ p := fun e => by
      obtain ⟨_, cur, hc⟩ := rowE_block (g := g) HAW.out.row rfl
      rw [e, hp2.blk] at hc
      simp only [Option.some.injEq, Obj.cells.injEq] at hc
      exact absurd hc.2.1 (by decide)
    have hgpb : g ≠ pb := fun e => by
      obtain ⟨_, cur, hc⟩ := rowE_block (g := g) HAW.out.row rfl
      rw [e, HAW.out.blk] at hc
      simp only [Option.some.injEq, Obj.cells.injEq] at hc
      exact absurd hc.2.1 (by decide)
    have hkl : ks.length ≤ lenB bs := by
      have h5 := lenB_set (ks' := []) hks
      simp at h5
      omega
    have hatl1 : at' < n1 := by
      have h5 := (List.getElem?_eq_some_iff.1 hp3).1
      rw [hg2'.1]
      exact h5
    rw [← HN.out] at hkl
    obtain ⟨cn, hcn⟩ : ∃ c, c = ks.count k := ⟨_, rfl⟩
    have hcl : cn ≤ ks.length := by rw [hcn]; exact List.count_le_length
    have hget : (cntF ks k).getD 0 = (cn : Int) := by rw [cntF_getD, hcn]
    have hai : (at' : Int) < (n1 : Int) := by omega
    have ha0 : (0 : Int) ≤ (at' : Int) := by omega
    have hlk : ∀ (d : Nat) (os : Array Obj), (Instr.lookup 52 (.map (some m)) (.agg #[.int .i64 k.a, .int .i64 k.b, .int .i64 k.c]) false).run Try.prog (grow (redrawn W d) os) = .ok (.int .i64 (cn : Int)) (grow (redrawn W d) os) := fun d os => by
      have h3 := look_G Try.underlying52 (mapG_ext hm0 (ext_grow (ext_refl _) d os)) (x := k) HK.out
      have h4 : (cntF ks k).getD etI.zero = (cn : Int) := hget
      rw [h4] at h3
      exact h3
    have q0 := block_cell HAW.out.blk 0
    have r1 := block_cell hp2.blk 1
    have k0 := block_cell HKB.out 0
    have k1 := block_cell HKB.out 1
    have k2 := block_cell HKB.out 2
    have l0 := block_lt HAW.out.blk
    have lp := block_lt hp2.blk
    have lk := block_lt HKB.out
    have HP1 := Lib.hid hp1
    have HP3 := Lib.hid hp3
    have HNEB := Lib.hid (show g ≠ m ∧ pb ≠ m ∧ p ≠ m ∧ p ≠ pb ∧ g ≠ p ∧ g ≠ pb ∧ w.heap.size ≠ m from ⟨hgm, hpbm, hpm, hpp, hgp, hgpb, hkm⟩)
    have HCN := Lib.hid hcn
    have HGET := Lib.hid hget
    clear hp1 hp2 hp3 hm0 hN0 hgm hpbm hpm hkm hpp hgp hgpb hg2' hcn hget hks hn1
    have hgc := cell_grown
    go_wp2
    refine wp_region_free 17 [0, 1, 2, 3, 4, 5, 6, 7, 8, 9, 10, 11, 12, 13, 14, 15, 16] [] (by kernel_rfl) (by kernel_rfl) ?_
    repeat (refine wpLoose_step rfl (fun K hK => ?_); (try simp only [Oper.quietAt, Oper.quietUpon]); go_simp; (refine hK _ ?_; clear hK K))
    refine wpLoose_nil (wpFresh_nil (fun wa hEa _ => ?_))
    simp only [List.drop_succ_cons, List.drop_zero]
    have HEA := Lib.hid hEa
    clear hEa hgc q0 r1 k0 k1 k2 l0 lp lk hlk hrc hg2
    by_cases hc0 : cn = 0
    · subst hc0
      go_wp2
      refine bodyPost_ret (results_tmp rfl _ _ _) rfl ?_
      refine SAME.out _ (ext_trans HE.out HEA.out) (fun hmem => ?_)
      obtain ⟨ks', h5, h6⟩ := (find_there HAW.out.rise).1 hmem
      rw [← HAT.out, HBI.out] at h5
      obtain rfl : ks = ks' := by simpa using h5
      exact absurd (List.count_pos_iff.2 h6) (by have := HCN.out; omega)
    have hci : ¬ (cn : Int) = 0 := by omega
    have HUA := Lib.hid (show Ext w wa from ext_trans HE.out HEA.out)
    have HB := Lib.hid (bagAt_ext HAW.out HEA.out)
    have HKB' := Lib.hid ((ext_block HEA.out (block_lt HKB.out)).trans HKB.out)
    clear HAW HKB SAME HEA HE
    have hp2 : BkAt wa p m (t, ks) := HB.out.at_ at' p m _ HP1.out HBI.out
    obtain ⟨N0, hN0, hm0⟩ := hp2.map
    have hrc := row_ptr HB.out.row HP3.out
    have hg2 := (rowE_block (g := g) HB.out.row rfl).1
    obtain ⟨hgm, hpbm, hpm, hpp, hgp, hgpb, hkm⟩ := HNEB.out
    have q0 := block_cell HB.out.blk 0
    have l0 := block_lt HB.out.blk
    obtain ⟨C, hC⟩ : ∃ C : World → Prop, ∀ x, C x ↔ (Upd (fun b => b = m) wa x ∧ ∃ N f, MapC m N f x ∧ (∀ y, y ≠ k → f y = cntF ks y) ∧ (f k).getD 0 = (cn : Int)) := ⟨_, fun _ => Iff.rfl⟩
    have hCE : ∀ a b, C a → Ext a b → C b := fun a b ha hE => (hC b).2 ⟨upd_trans ((hC a).1 ha).1 (upd_of_ext (fp := fun _ => False) hE) (fun _ _ h => h.elim), by
      obtain ⟨_, N, f, h1, h2⟩ := (hC a).1 ha
      exact ⟨N, f, mapG_ext h1 hE, h2⟩⟩
    have hCW : C wa := (hC wa).2 ⟨upd_refl, N0, _, hm0, fun _ _ => rfl, HGET.out⟩
    haveI : Nonempty (CW C) := ⟨⟨wa, hCW⟩⟩
    have u2 : ∀ x : CW C, x.val.cell? ⟨p, 1, none⟩ = some (.map (some m)) := fun x => (upd_cell ((hC _).1 x.ok).1 (block_lt hp2.blk) hpm 1).trans (block_cell hp2.blk 1)
    have u3 : ∀ x : CW C, x.val.cell? ⟨w.heap.size, 0, none⟩ = some (.int .i64 k.a) := fun x => (upd_cell ((hC _).1 x.ok).1 (block_lt HKB'.out) hkm 0).trans (block_cell HKB'.out 0)
    have u4 : ∀ x : CW C, x.val.cell? ⟨w.heap.size, 1, none⟩ = some (.int .i64 k.b) := fun x => (upd_cell ((hC _).1 x.ok).1 (block_lt HKB'.out) hkm 1).trans (block_cell HKB'.out 1)
    have u5 : ∀ x : CW C, x.val.cell? ⟨w.heap.size, 2, none⟩ = some (.int .i64 k.c) := fun x => (upd_cell ((hC _).1 x.ok).1 (block_lt HKB'.out) hkm 2).trans (block_cell HKB'.out 2)
    have ulk : ∀ x : CW C, (Instr.lookup 52 (.map (some m)) (.agg #[.int .i64 k.a, .int .i64 k.b, .int .i64 k.c]) false).run Try.prog x.val = .ok (.int .i64 (cn : Int)) x.val := fun x => by
      obtain ⟨_, N, f, h1, _, h2⟩ := (hC _).1 x.ok
      have h3 := look_G Try.underlying52 h1 (x := k) HK.out
      have h4 : (f k).getD etI.zero = (cn : Int) := h2
      rw [h4] at h3
      exact h3
    have hw1 : IntKind.i64.wrap ((cn : Int) - 1) = (cn : Int) - 1 := IntWalk.i64_in _ (by omega)
    have HM0 := Lib.hid hm0
    have HP2 := Lib.hid hp2
    have HCC := Lib.hid hC
    clear hm0 hp2 hN0 hC hgm hpbm hpm hpp hgp hgpb hkm
    go_wp2
    clear q0 l0 hrc
    refine wp_region_chn hCE hCW [] [0, 1, 2, 3, 4, 5, 6] [(7, fun v w' => ∃ (born N' : Nat), v = .tuple #[.int .i64 (cn : Int), .int .i64 (born : Int)] ∧ EntAt m (k3 k) born w' ∧ MapC m N' (fun z => if z = k then some (cn : Int) else cntF ks z) w'), (8, fun v w' => ∃ (born N' : Nat), v = .int .i64 (born : Int) ∧ EntAt m (k3 k) born w' ∧ MapC m N' (fun z => if z = k then some (cn : Int) else cntF ks z) w')] [9] [7, 8] rfl (by kernel_rfl) (by kernel_rfl) (by kernel_rfl) (fun _ _ d _ _ h => by cases d <;> exact h) ?_
    refine wpPre_nil ?_
    repeat (refine wpC_step rfl (fun K hK => ?_); (try simp only [Oper.quietAt, Oper.quietUpon]); go_simp; (refine hK _ ?_; clear hK K))
    refine wpC_nil ?_
    clear u2 u3 u4 u5 ulk
    refine wpCh_step rfl rfl (fun v a b hE hR => ?_) (fun w6 hC6 _ => ?_) (fun v13 => ?_)
    · obtain ⟨born, N', h1, h3, h4⟩ := hR
      exact ⟨born, N', h1, entAt_block h3 (ext_block hE (mapG_lt h4)), mapG_ext h4 hE⟩
    · obtain ⟨hU6, N6, f6, hm6, hf6, hg6⟩ := (HCC.out _).1 hC6
      have hN6 := cnt_near hm6 hf6
      have h8 : (f6 k).getD etI.zero = (cn : Int) := hg6
      refine runs_entry_G (K := ktK) (E := etI) (.tmp 43) (.tmp 44) rfl Try.underlying52 rfl hm6 (by unfold maxLen; omega) (y := k) rfl HK.out (by rw [h8]; exact okI_iff.2 (by omega)) (fun born w1 r1 r2 r3 => ?_)
      rw [h8] at r1 ⊢
      have r4 := mapG_congr r1 (f' := fun z => if z = k then some (cn : Int) else cntF ks z) (fun x => by
        by_cases e : x = k
        · simp [e]
        · simp [e, hf6 x e]) rfl
      refine ⟨(HCC.out w1).2 ⟨upd_trans hU6 (upd_grown r3) (fun _ _ e => (Option.some.inj e).symm), _, _, r4, fun y hy => by simp [hy], by simp⟩, born, _, rfl, r2, r4⟩
    refine wpCh_step rfl rfl (fun v a b hE hR => ?_) (fun w6 hC6 hR6 => ?_) (fun v14 => ?_)
    · obtain ⟨born, N', h1, h3, h4⟩ := hR
      exact ⟨born, N', h1, entAt_block h3 (ext_block hE (mapG_lt h4)), mapG_ext h4 hE⟩
    · obtain ⟨born, N', rfl, h3, h4⟩ := hR6
      simp only [runsAt]
      go_simp
      first | exact ⟨hC6, born, rfl, h3, N', h4⟩ | exact ⟨hC6, born, rfl, N', h3, h4⟩ | exact ⟨hC6, h3, N', h4⟩ | exact ⟨hC6, N', h3, h4⟩
    refine wpCh_nil (fun w6 hC6 hR6 => ?_)
    obtain ⟨born, N', rfl, r2, r3⟩ := hR6
    have hN' := cnt_near r3 (ks := ks) (k := k) (fun y hy => by simp [hy])
    obtain ⟨w7, hes, r4, r5⟩ := entStore_G (ty := 52) (c := ((cn : Int) - 1 : Int)) Try.underlying52 r3 (by unfold maxLen; omega) HK.out r2 (okI_iff.2 (by omega))
    have hes' : (Instr.entryStore 52 (.map (some m)) (.int .i64 (born : Int)) (.int .i64 ((cn : Int) - 1))).run Try.prog w6 = .ok () w7 := hes
    have hU7 : Upd (fun b => b = m) wa w7 := upd_trans ((HCC.out _).1 hC6).1 (upd_grown r5) (fun _ _ e => (Option.some.inj e).symm)
    have HU7 := Lib.hid hU7
    have HM7 := Lib.hid (show ∃ N, MapC m N (fun z => if z = k then some ((cn : Int) - 1) else cntF ks z) w7 from ⟨_, mapG_congr r4 (fun x => by
      by_cases e : x = k
      · simp [e]
      · simp [e]) rfl⟩)
    have hpb7 := (hU7.block pb (block_lt HB.out.blk) HNEB.out.2.1).trans HB.out.blk
    have hp7 := (hU7.block p (block_lt HP2.out.blk) HNEB.out.2.2.1).trans HP2.out.blk
    have hk7 := (hU7.block w.heap.size (block_lt HKB'.out) HNEB.out.2.2.2.2.2.2).trans HKB'.out
    rw [← HN.out] at hpb7
    have HPB7 := Lib.hid hpb7
    have HP7 := Lib.hid hp7
    have HK7 := Lib.hid hk7
    have x3 : w7.cell? ⟨pb, 2, none⟩ = some (.int .i64 (n : Int)) := block_cell hpb7 2
    have f3 := block_frozen hpb7 2
    have x2 : w7.cell? ⟨p, 2, none⟩ = some (.int .i64 (ks.length : Int)) := block_cell hp7 2
    have f2 := block_frozen hp7 2
    have lp7 := block_lt hpb7
    have lq7 := block_lt hp7
    have hset := (fun (u : Value) => (upd_setCell (w := w7) (a := ⟨p, 2, none⟩) u).block pb lp7 (fun e => HNEB.out.2.2.2.1 e.symm))
    have z0 : ∀ u, (w7.setCell ⟨p, 2, none⟩ u).cell? ⟨pb, 2, none⟩ = some (.int .i64 (n : Int)) := fun u => block_cell ((hset u).trans HPB7.out) 2
    have z1 : ∀ u, (w7.setCell ⟨p, 2, none⟩ u).frozen? ⟨pb, 2, none⟩ = false := fun u => block_frozen ((hset u).trans HPB7.out) 2
    have hw2 : IntKind.i64.wrap ((ks.length : Int) - 1) = (ks.length : Int) - 1 := IntWalk.i64_in _ (by omega)
    have hw3 : IntKind.i64.wrap ((n : Int) - 1) = (n : Int) - 1 := IntWalk.i64_in _ (by omega)
    have HSET := Lib.hid hset
    clear hes r4 r5 r2 r3 hU7 hpb7 hp7 hk7 hC6 hset HM0 hN' HCC hCW hCE
    refine wpSeq_of_list [9] [_] _ _ rfl ?_
    go_wp2
    obtain ⟨w9, hw9⟩ : ∃ w9, w9 = (w7.setCell ⟨p, 2, none⟩ (.int .i64 ((ks.length : Int) - 1))).setCell ⟨pb, 2, none⟩ (.int .i64 ((n : Int) - 1)) := ⟨_, rfl⟩
    rw [← hw9]
    have hU9 : Upd (fun b => b = m ∨ b = p ∨ b = pb) wa w9 := by
      rw [hw9]
      refine upd_trans (upd_mono HU7.out (fun _ _ e => .inl e)) (upd_trans (fp := fun b => b = p ∨ b = pb) (upd_mono (upd_setCell (a := ⟨p, 2, none⟩) _) (fun _ _ e => .inl e)) (upd_setCell (a := ⟨pb, 2, none⟩) _) (fun _ _ e => .inr e)) (fun _ _ e => .inr e)
    have hb9 : w9.heap[pb]? = some (.cells #[.slice (some ⟨g, 0, none⟩) n1 c1, .int .i64 room, .int .i64 ((n : Int) - 1)] 47 (0, 0)) := by
      rw [hw9]
      exact heap_setCell_at (j := 2) (u := .int .i64 ((n : Int) - 1)) ((HSET.out _).trans HPB7.out)
    have hp9 : w9.heap[p]? = some (.cells #[.int .i64 t, .map (some m), .int .i64 ((ks.length : Int) - 1)] 54 (0, 0)) := by
      rw [hw9]
      have h5 := heap_setCell_at (j := 2) (u := .int .i64 ((ks.length : Int) - 1)) HP7.out
      exact ((upd_setCell (a := ⟨pb, 2, none⟩) _).block p (block_lt h5) HNEB.out.2.2.2.1).trans h5
    have hkb9 : w9.heap[w.heap.size]? = some (.cells #[.int .i64 k.a, .int .i64 k.b, .int .i64 k.c] 36 (0, 0)) := by
      rw [hw9]
      have h7 := block_lt HKB'.out
      have hlt := block_lt HB.out.blk
      have hltp := block_lt HP2.out.blk
      have hne1 : w.heap.size ≠ p := fun e => by
        have h5 := HKB'.out
        rw [e, HP2.out.blk] at h5
        simp only [Option.some.injEq, Obj.cells.injEq] at h5
        exact absurd h5.2.1 (by decide)
      have hne2 : w.heap.size ≠ pb := fun e => by
        have h5 := HKB'.out
        rw [e, HB.out.blk] at h5
        simp only [Option.some.injEq, Obj.cells.injEq] at h5
        exact absurd h5.2.1 (by decide)
      have h5 := ((upd_setCell (w := w7) (a := ⟨p, 2, none⟩) (.int .i64 ((ks.length : Int) - 1))).block w.heap.size (block_lt HK7.out) hne1).trans HK7.out
      exact ((upd_setCell (a := ⟨pb, 2, none⟩) _).block w.heap.size (block_lt h5) hne2).trans h5
    have hm9 : ∃ N, MapC m N (fun z => if z = k then some ((cn : Int) - 1) else cntF ks z) w9 := by
      obtain ⟨N, h6⟩ := HM7.out
      refine ⟨N, ?_⟩
      rw [hw9]
      exact mapG_upd (mapG_upd h6 (upd_setCell (a := ⟨p, 2, none⟩) _) (fun e => HNEB.out.2.2.1 (show p = m from e.symm))) (upd_setCell (a := ⟨pb, 2, none⟩) _) (fun e => HNEB.out.2.1 (show pb = m from e.symm))
    have HMEM := Lib.hid (show k ∈ ks from List.count_pos_iff.1 (by have := HCN.out; omega))
    have HLZ := Lib.hid (show (lenB (bs.set at' (t, ks.erase k)) : Int) = (n : Int) - 1 by
      have h5 := lenB_set (ks' := ks.erase k) HBI.out
      rw [List.length_erase_of_mem HMEM.out, ← HN.out] at h5
      have := List.length_pos_of_mem HMEM.out
      omega)
    have FIN := Lib.hid (show ∀ (w' : World) {bs' : List Bk} {ps' : List (Nat × Nat)} {v' : Value}, BagAt w' pb room bs' ps' v' F → flatB bs' = flatB (bs.set at' (t, ks.erase k)) → (∀ b ∈ bs', b.2 ≠ []) → Upd F w w' → RemPost pb room E F (t, k) w (.returned (.int .i64 0)) w' from fun w' bs' ps' v' h5 h6 h7 h8 => ⟨0, rfl, ⟨_, _, _, h5, by
      rw [h6]
      have h9 := del_flat HB.out.rise (k := k) (ks := ks) (t := t) (by rw [← HAT.out]; exact HBI.out) HMEM.out
      rw [← HAT.out] at h9
      rw [h9]
      exact HP.out.erase _, h7⟩, h8⟩)
    obtain ⟨N9, hM9⟩ := hm9
    have hlk : ∀ (d : Nat) (os : Array Obj), (Instr.lookup 52 (.map (some m)) (.agg #[.int .i64 k.a, .int .i64 k.b, .int .i64 k.c]) false).run Try.prog (grow (redrawn w9 d) os) = .ok (.int .i64 ((cn : Int) - 1)) (grow (redrawn w9 d) os) := fun d os => by
      have h3 := look_G Try.underlying52 (mapG_ext hM9 (ext_grow (ext_refl _) d os)) (x := k) HK.out
      have h4 : ((fun z => if z = k then some ((cn : Int) - 1) else cntF ks z) k).getD etI.zero = (cn : Int) - 1 := by simp
      rw [h4] at h3
      exact h3
    have r1 := block_cell hp9 1
    have k0 := block_cell hkb9 0
    have k1 := block_cell hkb9 1
    have k2 := block_cell hkb9 2
    have lp := block_lt hp9
    have lk := block_lt hkb9
    have HM9 := Lib.hid hM9
    have HP9 := Lib.hid hp9
    have HB9 := Lib.hid hb9
    have HK9 := Lib.hid hkb9
    have HU9 := Lib.hid hU9
    clear hw9 hU9 hb9 hp9 hkb9 hM9 x2 x3 f2 f3 lp7 lq7 z0 z1 HSET HPB7 HP7 HK7 HM7 HU7
    have hgc := cell_grown
    refine wp_region_free 7 [0, 1, 2, 3, 4, 5, 6] [] (by kernel_rfl) (by kernel_rfl) ?_
    repeat (refine wpLoose_step rfl (fun K hK => ?_); (try simp only [Oper.quietAt, Oper.quietUpon]); go_simp; (refine hK _ ?_; clear hK K))
    refine wpLoose_nil (wpFresh_nil (fun wb hEb _ => ?_))
    simp only [List.drop_succ_cons, List.drop_zero]
    have HEB := Lib.hid hEb
    have hpb' := (ext_block hEb lp).trans HP9.out
    have hkb' := (ext_block hEb lk).trans HK9.out
    have hbb' := (ext_block hEb (block_lt HB9.out)).trans HB9.out
    have hmb' := mapG_ext HM9.out hEb
    have hUb := upd_trans HU9.out (upd_of_ext (fp := fun _ => False) hEb) (fun _ _ h => h.elim)
    clear hEb hgc r1 k0 k1 k2 lp lk hlk HM9 HP9 HB9 HK9 HU9
    by_cases hc1 : cn = 1
    · have hcz : decide ((cn : Int) - 1 = 0) = true := decide_eq_true (by omega)
      have HMB := Lib.hid hmb'
      have HPBb := Lib.hid hpb'
      have HBBb := Lib.hid hbb'
      have HUBb := Lib.hid hUb
      have r1 := block_cell hpb' 1
      have k0 := block_cell hkb' 0
      have k1 := block_cell hkb' 1
      have k2 := block_cell hkb' 2
      have lp := block_lt hpb'
      have lk := block_lt hkb'
      have hgc := cell_grown
      clear hpb' hkb' hbb' hmb' hUb
      go_wp2
      refine wp_region_mix [] [0, 1, 2, 3, 4] [] [5] (by kernel_rfl) (by kernel_rfl) (fun _ _ d _ _ h => by cases d <;> exact h) ?_
      refine wpPre_nil ?_
      repeat (refine wpLoose_step rfl (fun K hK => ?_); (try simp only [Oper.quietAt, Oper.quietUpon]); go_simp; (refine hK _ ?_; clear hK K))
      refine wpLoose_nil (wpFresh_nil (fun wc hEc _ => ?_))
      try simp only [List.drop_succ_cons, List.drop_zero]
      have hmc := mapG_ext HMB.out hEc
      have hpc := (ext_block hEc lp).trans HPBb.out
      have hbc := (ext_block hEc (block_lt HBBb.out)).trans HBBb.out
      have hUc := upd_trans HUBb.out (upd_of_ext (fp := fun _ => False) hEc) (fun _ _ h => h.elim)
      clear r1 k0 k1 k2 lp lk hgc HMB HPBb HBBb HUBb hEc
      refine wpSeq_of_list [5] [_] _ _ rfl ?_
      refine wpList_drop_G (K := ktK) (E := etI) _ rfl (.tmp 73) (.tmp 74) 52 rfl Try.underlying52 rfl hmc k rfl HK.out (fun wz hmz' hgz => ?_)
      have hUz := upd_trans hUc (upd_grown hgz) (fun _ _ e => .inl (Option.some.inj e).symm)
      have hpz := ((upd_grown hgz).block p (block_lt hpc) (fun e => HNEB.out.2.2.1 (Option.some.inj e).symm)).trans hpc
      have hbz := ((upd_grown hgz).block pb (block_lt hbc) (fun e => HNEB.out.2.1 (Option.some.inj e).symm)).trans hbc
      have hmz : ∃ N, N ≤ (ks.erase k).length ∧ MapC m N (cntF (ks.erase k)) wz := by
        have h5 := mapG_congr hmz' (f' := cntF (ks.erase k)) (fun x => by
          rw [cntF_del]
          by_cases e : x = k
          · subst e; simp [← HCN.out, hc1]
          · simp [e]) rfl
        exact ⟨_, cntF_bound h5, h5⟩
      clear hmz' hgz hmc hpc hbc hUc
      have HBZ := Lib.hid (bag_turn (ks' := ks.erase k) HB.out HBI.out HP1.out hUz (by rw [List.length_erase_of_mem HMEM.out]; exact hpz.trans (by rw [show ((ks.length - 1 : Nat) : Int) = (ks.length : Int) - 1 by omega])) (by rw [HLZ.out]; exact hbz) hmz (fun x hx => HP2.out.okk x (List.mem_of_mem_erase hx)))
      have HUZ := Lib.hid (show Upd F w wz from upd_trans (upd_of_ext HUA.out) hUz (fun b _ e => by
        rcases (show b = m ∨ b = p ∨ b = pb from e) with rfl | rfl | rfl
        · exact (HB.out.own.2.2 _ (List.mem_of_getElem? HP1.out)).2
        · exact (HB.out.own.2.2 _ (List.mem_of_getElem? HP1.out)).1
        · exact HB.out.own.1))
      have HBB := Lib.hid hbz
      have x2 : wz.cell? ⟨p, 2, none⟩ = some (.int .i64 ((ks.length : Int) - 1)) := block_cell hpz 2
      have x0 := block_cell hbz 0
      have lb9 := block_lt hbz
      have lp9 := block_lt hpz
      clear hpz hbz hmz hUz
      by_cases h1 : ks.length = 1
      · have hlz : decide ((ks.length : Int) - 1 = 0) = true := decide_eq_true (by omega)
        have HE1 := Lib.hid (show ks.erase k = [] from List.eq_nil_of_length_eq_zero (by rw [List.length_erase_of_mem HMEM.out]; omega))
        have CD := Lib.hid (delete_any (.slice (some ⟨g, 0, none⟩) n1 c1) (ps.map (·.1)) at' (at' + 1) wz HBZ.out.row (by omega) (by have := (rowE_cap HBZ.out.row).1; omega) (by rw [List.length_map, HBZ.out.len, List.length_set]; omega))
        have hcast : ((at' + 1 : Nat) : Int) = (at' : Int) + 1 := by omega
        rw [hcast] at CD
        have hwa : IntKind.i64.wrap ((at' : Int) + 1) = (at' : Int) + 1 := IntWalk.i64_in _ (by have := (rowE_cap HBZ.out.row).1; have h5 := HBZ.out.len; rw [List.length_map] at this; rw [List.length_set] at h5; omega)
        clear hcast
        go_wp2_with fail
        refine CD.out.mono ?_
        rintro e w2 ⟨v', rfl, hr', hU', hown'⟩
        have hpb2 := (hU'.block pb lb9 (fun e => HNEB.out.2.2.2.2.2.1 (Option.some.inj e))).trans HBB.out
        obtain ⟨A', c', hv'⟩ := rowE_form hr'
        obtain ⟨n', hn'⟩ : ∃ x, x = (cutAt (ps.map (·.1)) at' (at' + 1)).length := ⟨_, rfl⟩
        rw [← hn'] at hv'
        subst hv'
        have y0 := block_cell hpb2 0
        have f0 := block_frozen hpb2 0
        have l2 := block_lt hpb2
        have HPB2 := Lib.hid hpb2
        have HR' := Lib.hid hr'
        have HO' := Lib.hid hown'
        have HU' := Lib.hid hU'
        clear hr' hown' hU' hpb2 hn' x2 x0
        go_wp2
        refine bodyPost_ret (results_tmp rfl _ _ _) rfl ?_
        have hset := heap_setCell_at (j := 0) (u := .slice A' n' c') HPB2.out
        have hBB : BagAt (w2.setCell ⟨pb, 0, none⟩ (.slice A' n' c')) pb room ((bs.set at' (t, ks.erase k)).take at' ++ (bs.set at' (t, ks.erase k)).drop (at' + 1)) (ps.take at' ++ ps.drop (at' + 1)) (.slice A' n' c') F := by
          refine bagAt_cut HBZ.out (by omega) (by rw [List.length_set]; have := (rowE_cap HBZ.out.row).1; have h5 := HBZ.out.len; rw [List.length_map] at this; rw [List.length_set] at h5; omega) (upd_trans (upd_mono HU'.out (fun _ _ h => .inl h)) (upd_setCell (a := ⟨pb, 0, none⟩) _) (fun _ _ h => .inr h)) ?_ (rowE_upd HR'.out (upd_setCell (a := ⟨pb, 0, none⟩) _) (fun b hb e => ?_)) HO'.out
          · refine hset.trans ?_
            have h5 := lenB_flat ((bs.set at' (t, ks.erase k)).take at' ++ (bs.set at' (t, ks.erase k)).drop (at' + 1))
            have h6 : flatB ((bs.set at' (t, ks.erase k)).take at' ++ (bs.set at' (t, ks.erase k)).drop (at' + 1)) = flatB (bs.set at' (t, ks.erase k)) := del_empty (t := t) (by
              rw [List.getElem?_set, if_pos rfl, HE1.out, if_pos (List.getElem?_eq_some_iff.1 HBI.out).1])
            rw [h6, ← lenB_flat] at h5
            have h7 := HLZ.out
            rw [h5, h7]
            rfl
          · rw [HO'.out] at hb
            exact HNEB.out.2.2.2.2.2.1 ((Option.some.inj hb).trans e)
        refine FIN.out _ hBB ?_ (fun b hb => ?_) (upd_trans HUZ.out (upd_trans (upd_mono HU'.out (fun _ _ h => .inl h)) (upd_setCell (a := ⟨pb, 0, none⟩) _) (fun _ _ h => .inr h) : Upd (fun b => (Value.slice (some ⟨g, 0, none⟩) n1 c1).ownBlock = some b ∨ b = pb) wz _) (fun b _ e => ?_))
        · exact del_empty (t := t) (by
            rw [List.getElem?_set, if_pos rfl, HE1.out, if_pos (List.getElem?_eq_some_iff.1 HBI.out).1])
        · rw [set_cut] at hb
          rcases List.mem_append.1 hb with h5 | h5
          · exact HNE.out b (List.mem_of_mem_take h5)
          · exact HNE.out b (List.mem_of_mem_drop h5)
        · rcases e with e | rfl
          · exact HBZ.out.own.2.1 b e
          · exact HBZ.out.own.1
      · have hlz : ¬ (ks.length : Int) - 1 = 0 := by omega
        go_wp2
        refine bodyPost_ret (results_tmp rfl _ _ _) rfl ?_
        exact FIN.out _ HBZ.out rfl (set_ne HNE.out (fun e => by
          have h5 := List.length_erase_of_mem HMEM.out
          rw [e, List.length_nil] at h5
          have := List.length_pos_of_mem HMEM.out
          omega)) HUZ.out
    · have hcz : ¬ (cn : Int) - 1 = 0 := by omega
      obtain ⟨wz, hwz⟩ : ∃ wz, wz = wb := ⟨_, rfl⟩
      rw [← hwz] at hpb' hbb' hmb' hUb ⊢
      have hUz := hUb
      have hpz := hpb'
      have hbz := hbb'
      have hmz : ∃ N, N ≤ (ks.erase k).length ∧ MapC m N (cntF (ks.erase k)) wz := by
        have h5 := mapG_congr hmb' (f' := cntF (ks.erase k)) (fun x => by
          rw [cntF_del]
          by_cases e : x = k
          · subst e
            have h6 := HCN.out
            simp only [if_true]
            rw [if_neg (by omega), h6]
          · simp [e]) rfl
        exact ⟨_, cntF_bound h5, h5⟩
      clear hpb' hkb' hbb' hmb' hUb hwz
      have HBZ := Lib.hid (bag_turn (ks' := ks.erase k) HB.out HBI.out HP1.out hUz (by rw [List.length_erase_of_mem HMEM.out]; exact hpz.trans (by rw [show ((ks.length - 1 : Nat) : Int) = (ks.length : Int) - 1 by omega])) (by rw [HLZ.out]; exact hbz) hmz (fun x hx => HP2.out.okk x (List.mem_of_mem_erase hx)))
      have HUZ := Lib.hid (show Upd F w wz from upd_trans (upd_of_ext HUA.out) hUz (fun b _ e => by
        rcases (show b = m ∨ b = p ∨ b = pb from e) with rfl | rfl | rfl
        · exact (HB.out.own.2.2 _ (List.mem_of_getElem? HP1.out)).2
        · exact (HB.out.own.2.2 _ (List.mem_of_getElem? HP1.out)).1
        · exact HB.out.own.1))
      have HBB := Lib.hid hbz
      have x2 : wz.cell? ⟨p, 2, none⟩ = some (.int .i64 ((ks.length : Int) - 1)) := block_cell hpz 2
      have x0 := block_cell hbz 0
      have lb9 := block_lt hbz
      have lp9 := block_lt hpz
      clear hpz hbz hmz hUz
      by_cases h1 : ks.length = 1
      · exfalso
        omega
      · have hlz : ¬ (ks.length : Int) - 1 = 0 := by omega
        go_wp2
        refine bodyPost_ret (results_tmp rfl _ _ _) rfl ?_
        exact FIN.out _ HBZ.out rfl (set_ne HNE.out (fun e => by
          have h5 := List.length_erase_of_mem HMEM.out
          rw [e, List.length_nil] at h5
          have := List.length_pos_of_mem HMEM.out
          omega)) HUZ.out
end Go.Proofs.Ytojgbphmkloicaa
