/- New, Kind, Last, Next. -/
import Derived.Test.YteccpinilpkmiaaEk
namespace Go.Proofs.Yteccpinilpkmiaa
open Go Go.RowKit Go.Sort Go.Shelf
set_option maxHeartbeats 800000

def EmAt (w : World) (p : Nat) (k : ByteArray) (v : Value) : Prop := w.heap[p]? = some (.cells #[.string k, v] 42 (0, 0))

def NewPost (k : ByteArray) (w : World) (e : Ending) (w' : World) : Prop :=
  Ext w w' ∧ ((knows k = true ∧ ∃ p, w.heap.size ≤ p ∧ e = .returned (.tuple #[.pointer (some ⟨p, 0, none⟩), .int .i64 0]) ∧ EmAt w' p k (.slice none 0 0)) ∨ (knows k = false ∧ e = .returned (.tuple #[.pointer none, .int .i64 2])))
theorem new_any (k : ByteArray) (w : World) : Calls Try.prog 10 #[.string k] w (NewPost k w) := by
  have c0 := Lib.hid (told_any k (.slice none 0 0) (.slice none 0 0) [] [] w (rdS_row (rowE_nil w)) (rdS_row (rowE_nil w)) (by simp) (by simp) (by simp) (by simp))
  by_cases hk : knows k = true
  · have HK := Lib.hid hk
    clear hk
    go_enter Try.func10, Try.ntmps10
    go_wp2_with (go_at_call 19; refine c0.out.mono ?_; rintro e w1 ⟨v1, rfl, hr1, hE1⟩; rw [HK.out])
    refine bodyPost_ret (results_tmp2 rfl _ _ _) rfl ?_
    exact ⟨ext_alloc hE1 _, .inl ⟨HK.out, _, ext_size hE1, rfl, heap_alloc_new w1 _⟩⟩
  · have HK := Lib.hid (Bool.eq_false_iff.2 hk)
    clear hk
    go_enter Try.func10, Try.ntmps10
    go_wp2_with (go_at_call 19; refine c0.out.mono ?_; rintro e w1 ⟨v1, rfl, hr1, hE1⟩; rw [HK.out])
    refine bodyPost_ret (results_tmp2 rfl _ _ _) rfl ?_
    exact ⟨hE1, .inr ⟨HK.out, rfl⟩⟩
theorem kind_any (p : Nat) (k : ByteArray) (v : Value) (w : World) (h : EmAt w p k v) : Calls Try.prog 17 #[.pointer (some ⟨p, 0, none⟩)] w fun e w' => e = .returned (.string k) ∧ w' = w := by
  have q0 : w.cell? ⟨p, 0, none⟩ = some (.string k) := block_cell h 0
  have lb := block_lt h
  clear h
  go_enter Try.func17, Try.ntmps17
  go_wp2
  refine bodyPost_ret (results_tmp rfl _ _ _) rfl ?_
  exact ⟨rfl, rfl⟩
theorem last_any (p : Nat) (k : ByteArray) (v : Value) (L : List ByteArray) (w : World) (h : EmAt w p k v) (hv : rowE elS w v L) (hl : L.length ≤ 1000000) : Calls Try.prog 16 #[.pointer (some ⟨p, 0, none⟩)] w fun e w' => ∃ v', e = .returned v' ∧ rowF elS w.heap.size L v' w' ∧ Ext w w' := by
  have c0 := Lib.hid (clone_any v L w (rdS_row hv) hl)
  obtain ⟨A, c, rfl⟩ := rowE_form hv
  have q0 : w.cell? ⟨p, 1, none⟩ = some (.slice A L.length c) := block_cell h 1
  have lb := block_lt h
  clear h hv
  go_enter Try.func16, Try.ntmps16
  go_wp2_with (go_at_call 23; refine c0.out.mono ?_; rintro e w1 ⟨v1, rfl, hr1, hE1⟩)
  refine bodyPost_ret (results_tmp rfl _ _ _) rfl ?_
  exact ⟨_, rfl, hr1, hE1⟩

def ToldR (H : Nat) (L : List ByteArray) (v : Value) (w : World) : Prop := ∃ lv b, v = .tuple #[lv, .bool b] ∧ rowF elS H L lv w
theorem toldR_ext {H : Nat} {L : List ByteArray} (v : Value) (w w' : World) (hE : Ext w w') (h : ToldR H L v w) : ToldR H L v w' := by
  obtain ⟨lv, b, h1, h2⟩ := h
  exact ⟨lv, b, h1, rowF_ext _ _ _ hE h2⟩

theorem next_any (p : Nat) (k : ByteArray) (v0 vm : Value) (L M : List ByteArray) (w : World) (h : EmAt w p k v0) (hv : rowE elS w v0 L) (hM : RdS w vm M) (hl : L.length ≤ 100000) (hm : M.length ≤ 100000) (hs1 : ∀ x ∈ L, x.size ≤ maxLen) (hs2 : ∀ x ∈ M, x.size ≤ maxLen) :
    Calls Try.prog 11 #[.pointer (some ⟨p, 0, none⟩), vm] w fun e w' => ∃ v1 lv, e = .returned lv ∧ EmAt w' p k v1 ∧ rowF elS w.heap.size (sortS M) v1 w' ∧ rowF elS w.heap.size (toldL k L (sortS M)) lv w' ∧ (∀ b, v1.ownBlock = some b → lv.ownBlock ≠ some b) ∧ Upd (fun b => b = p) w w' := by
  have HV := Lib.hid hv
  obtain ⟨A0, c0, rfl⟩ := rowE_form hv
  have HM := Lib.hid hM
  obtain ⟨A, c, rfl, -, -⟩ := hM
  have HEM := Lib.hid h
  have HS1 := Lib.hid hs1
  have HS2 := Lib.hid hs2
  clear h hv hs1 hs2
  go_enter Try.func11, Try.ntmps11
  go_wp2_with (go_at_call 21; refine (valuesF_any A M.length c w).mono ?_; rintro e w1 ⟨b1, rfl, hb1, hE1⟩; have HB1 := Lib.hid hb1; have HE1 := Lib.hid hE1; clear hb1 hE1)
  go_wp2_with (go_at_call 20; refine (sorted_any A c b1 M w1 HB1.out (rdS_ext HM.out HE1.out) hm).mono ?_; rintro e w2 ⟨v1, rfl, hr2, hE2⟩; have HR2 := Lib.hid hr2; have HE2 := Lib.hid (ext_trans HE1.out hE2); clear hr2 hE2)
  have lbp := block_lt HEM.out
  have HEM2 := Lib.hid ((ext_block HE2.out lbp).trans HEM.out)
  have q0 : w2.cell? ⟨p, 0, none⟩ = some (.string k) := block_cell HEM2.out 0
  have q1 : w2.cell? ⟨p, 1, none⟩ = some (.slice A0 L.length c0) := block_cell HEM2.out 1
  have lb := block_lt HEM2.out
  have hgc := cell_grown
  refine wp_region_gen [0, 4, 8] [1, 2, 3, 5, 6, 7] [(9, ToldR w2.heap.size (toldL k L (sortS M))), (10, ToldR w2.heap.size (toldL k L (sortS M))), (11, rowF elS w2.heap.size (toldL k L (sortS M))), (12, fun v _ => ∃ b, v = .bool b), (13, rowF elS w2.heap.size (toldL k L (sortS M)))] [14] [9, 10, 11, 12, 13] rfl (by kernel_rfl) (by kernel_rfl) (fun _ _ d _ _ h => by cases d <;> exact h) ?_
  repeat (refine wpPre_step rfl (fun K hK => ?_); go_simp; (refine hK _ ?_; clear hK K))
  refine wpPre_nil ?_
  repeat (refine wpLoose_step rfl (fun K hK => ?_); (try simp only [Oper.quietAt, Oper.quietUpon]); go_simp; (refine hK _ ?_; clear hK K))
  refine wpLoose_nil ?_
  have hmem : ∀ x ∈ sortS M, x.size ≤ maxLen := fun x hx => HS2.out x ((sortS_perm M).mem_iff.1 hx)
  have HMEM := Lib.hid hmem
  clear hmem
  refine wpGen_step rfl rfl toldR_ext (fun w6 hE6 hS6 => ?_) (fun x1 => ?_)
  · simp only [runsAt]
    go_simp
    refine (told_any k (.slice A0 L.length c0) v1 L (sortS M) w6 (rdS_row (rowE_ext HV.out (ext_trans HE2.out hE6))) (rdS_row (rowE_ext HR2.out.1 hE6)) hl (by rw [sortS_length]; exact hm) HS1.out HMEM.out).mono ?_
    rintro e w7 ⟨lv, rfl, h1, h2⟩
    exact ⟨_, rfl, h2, lv, _, rfl, rowF_low h1 (ext_size hE6)⟩
  refine wpGen_step rfl rfl toldR_ext (fun w6 hE6 hS6 => ?_) (fun x2 => ?_)
  · simp only [runsAt]
    go_simp
    exact ⟨ext_refl _, hS6 _ (List.mem_cons_self ..) (by kernel_rfl)⟩
  refine wpGen_step rfl rfl rowF_ext (fun w6 hE6 hS6 => ?_) (fun x3 => ?_)
  · obtain ⟨lv, b, rfl, h1⟩ := hS6 _ (List.mem_cons_self ..) (by kernel_rfl)
    simp only [runsAt]
    go_simp
    exact ext_refl _
  refine wpGen_step rfl rfl (fun _ _ _ _ h => h) (fun w6 hE6 hS6 => ?_) (fun x4 => ?_)
  · obtain ⟨lv, b, rfl, h1⟩ := hS6 _ (List.mem_cons_of_mem _ (List.mem_cons_self ..)) (by kernel_rfl)
    simp only [runsAt]
    go_simp
    exact ext_refl _
  refine wpGen_step rfl rfl rowF_ext (fun w6 hE6 hS6 => ?_) (fun x5 => ?_)
  · simp only [runsAt]
    go_simp
    exact ⟨ext_refl _, hS6 _ (List.mem_cons_of_mem _ (List.mem_cons_self ..)) (by kernel_rfl)⟩
  refine wpGen_nil (fun w8 hE8 hS8 => ?_)
  have HR8 := Lib.hid (show rowF elS w2.heap.size (toldL k L (sortS M)) x5 w8 from hS8 _ (List.mem_cons_self ..))
  obtain ⟨b4, hb4⟩ : ∃ b, x4 = .bool b := hS8 _ (List.mem_cons_of_mem _ (List.mem_cons_self ..))
  subst hb4
  have HE8 := Lib.hid hE8
  clear hS8 hE8 q0 q1 hgc
  have HEM8 := Lib.hid ((ext_block HE8.out lb).trans HEM2.out)
  clear lb
  have q1 : w8.cell? ⟨p, 1, none⟩ = some (.slice A0 L.length c0) := block_cell HEM8.out 1
  have hf := block_frozen HEM8.out 1
  have lb := block_lt HEM8.out
  refine wpSeq_of_list [14] [_] _ _ rfl ?_
  obtain ⟨A1, c1, hv1⟩ := rowE_form HR2.out.1
  subst hv1
  go_wp2
  have HR18 := rowE_ext HR2.out.1 HE8.out
  have hoff1 := rowE_off HR18 HEM8.out (by decide)
  have hoff2 := rowE_off HR8.out.1 HEM8.out (by decide)
  refine bodyPost_ret (results_tmp rfl _ _ _) rfl ?_
  refine ⟨_, x5, rfl, (by rw [EmAt, heap_setCell_at HEM8.out]; rfl), ⟨rowE_upd HR18 (upd_setCell _) (fun b hb e => hoff1 (by rw [hb, e])), fun b e => Nat.le_trans (ext_size HE1.out) (HR2.out.2 b e)⟩, ⟨rowE_upd HR8.out.1 (upd_setCell _) (fun b hb e => hoff2 (by rw [hb, e])), fun b e => Nat.le_trans (ext_size HE2.out) (HR8.out.2 b e)⟩, fun b e1 e2 => ?_, upd_trans (upd_of_ext (ext_trans HE2.out HE8.out)) (upd_setCell _) (fun i _ e => e)⟩
  obtain ⟨h1, _⟩ := rowE_block HR2.out.1 e1
  have h2 := HR8.out.2 b e2
  omega
end Go.Proofs.Yteccpinilpkmiaa
