/- The document's Takes: paths that go again; all together. -/
import Derived.Test.YtiabmdboacpmcaaQk
namespace Go.Proofs.Ytiabmdboacpmcaa
open Go Go.RowKit Go.Sort
set_option maxHeartbeats 2000000

set_option maxRecDepth 100000 in
theorem rtk_again {N M : Nat} (kd : Int) (hkd : kd = 4 ∨ kd = 5) (hT : RTk N M) (hMM : ∀ M', M' ≤ M → RTk N M') (m : Int) (p : Tr) (hB : ∀ M', M' < M → RTk (N + 1) M') (rb n x : Nat) (v : Value) (u : List Sy) (w : World) (hN : sizeT p ≤ N) (hF : formB p = true) (hM : u.length ≤ M) (hM0 : M ≤ 1000) (hn : n ≤ 100) (hl : Lst w rb n (.node kd m [p]) x) (hu : RdY w v u) : Calls Try.prog 33 #[.slice (some ⟨rb, 0, none⟩) n n, .int .i64 (x : Int), v] w fun e w' => e = .returned (.bool (tk (.node kd m [p]) u)) ∧ Ext w w' := by
  have hcut : ∀ u : List Sy, u ≠ [] → (Words (.node kd m [p]) u ↔ ∃ k, 1 ≤ k ∧ k ≤ u.length ∧ Words p (u.take k) ∧ (k = u.length ∨ Words (.node kd m [p]) (u.drop k))) := by
    intro u hne
    rcases hkd with rfl | rfl
    · exact words_star m p hne
    · exact words_plus m p hne
  have hFt : formB (.node kd m [p]) = true := by
    rcases hkd with rfl | rfl <;> simp [formB, formL, hF]
  have hSt : sizeT (.node kd m [p]) ≤ N + 1 := by simp only [sizeT, sizeL]; omega
  obtain ⟨hx, lrb, q1, q2, A, c, q3, hc, hch⟩ := lst_node hl
  have HLST := Lib.hid hl
  have hxi : (x : Int) < (n : Int) := by omega
  have hx0 : (0 : Int) ≤ (x : Int) := by omega
  obtain ⟨A2, c2, rfl, hc2, hA2⟩ := hu
  have HU := Lib.hid (show RdY w (.slice A2 u.length c2) u from ⟨A2, c2, rfl, hc2, hA2⟩)
  obtain ⟨g, y, hA, lg, hgy, hyn, hly⟩ := hch 0 p rfl
  subst hA
  have HLY := Lib.hid hly
  simp only [List.length_singleton] at q3 hc
  clear hl hch hA2 hly
  have HT := Lib.hid hT
  have HMM := Lib.hid hMM
  have HBB := Lib.hid hB
  have HCUT := Lib.hid hcut
  clear hT hMM hB hcut
  by_cases hu0 : u.length = 0
  · have d0 : ((u.length : Int) == 0) = true := by rw [beq_iff_eq]; omega
    have hue : u = [] := List.length_eq_zero_iff.1 hu0
    rcases hkd with rfl | rfl
    · have ht : tk (.node 4 m [p]) u = true := (tk_iff _ _).2 (by rw [hue]; exact words_star_nil m p)
      rw [ht]
      clear ht hu0 hue
      go_enter Try.func33, Try.ntmps33
      go_wp2
      refine bodyPost_ret (results_tmp rfl _ _ _) rfl ?_
      exact ⟨rfl, ext_alloc (ext_refl _) _⟩
    · have ht : tk (.node 5 m [p]) u = tk p u := by
        rw [Bool.eq_iff_iff, tk_iff, tk_iff, hue]
        exact words_plus_nil m p
      rw [ht]
      clear ht hu0 hue
      go_enter Try.func33, Try.ntmps33
      go_wp2_with fail
      refine (HT.out p rb n y _ u _ hN hM hF hn (lst_ext HLY.out (ext_alloc (ext_refl _) _)) (rdY_ext HU.out (ext_alloc (ext_refl _) _))).mono ?_
      rintro e w1 ⟨rfl, hE1⟩
      have HE1 := Lib.hid (ext_trans (ext_alloc (ext_refl _) _) hE1)
      clear hE1
      go_wp2
      refine bodyPost_ret (results_tmp rfl _ _ _) rfl ?_
      exact ⟨rfl, HE1.out⟩
  · have d0 : ((u.length : Int) == 0) = false := by rw [beq_eq_false_iff_ne]; omega
    have HUNE : Hid (u ≠ []) := Lib.hid (fun e => hu0 (by rw [e]; rfl))
    clear hu0
    rcases hkd with rfl | rfl
    · go_enter Try.func33, Try.ntmps33
      go_wp2
      go_loopw [9] (fun x wr => ∃ k : Nat, 1 ≤ k ∧ k ≤ u.length + 1 ∧ x = .int .i64 (k : Int) ∧ (∀ k', 1 ≤ k' → k' < k → ¬ (tk p (u.take k') = true ∧ (k' = u.length ∨ tk (.node 4 m [p]) (u.drop k') = true))) ∧ Ext w wr ∧ wr.heap[w.heap.size]? = some (.cells #[.int .i64 4, .int .i64 m, .slice (some ⟨g, 0, none⟩) 1 c] 102 (0, 0))) (fun x _ => u.length + 1 - (intOf x).toNat)
      case atStart => exact ⟨1, Nat.le_refl _, by omega, rfl, fun k' h h2 => by omega, ext_alloc (ext_refl _) _, heap_alloc_new _ _⟩
      case round =>
        rename World => wr
        obtain ⟨k, hk1, hk, rfl, hno, hE, hb⟩ := hrel
        have HNO := Lib.hid hno
        have HE := Lib.hid hE
        have HB := Lib.hid hb
        have p2 : wr.cell? ⟨w.heap.size, 2, none⟩ = some (.slice (some ⟨g, 0, none⟩) 1 c) := block_cell hb 2
        have lb := block_lt hb
        have hgy' := (ext_cell HE.out _ _ lg).trans hgy
        have lg' := ext_lt HE.out lg
        have hcut := HCUT.out
        clear hno hE hb q1 q2 q3 lrb
        by_cases hlt : k ≤ u.length
        · have hki : (k : Int) ≤ (u.length : Int) := by omega
          have hk0 : (0 : Int) ≤ (k : Int) := by omega
          have hkc : k ≤ c2 := by omega
          have hgc := cell_grown
          have hcall : ∀ W', Ext wr W' → Calls Try.prog 33 #[.slice (some ⟨rb, 0, none⟩) n n, .int .i64 (y : Int), .slice A2 k c2] W' fun e w'' => e = .returned (.bool (tk p (u.take k))) ∧ Ext W' w'' := fun W' hE' =>
            HT.out p rb n y _ (u.take k) W' hN (by rw [List.length_take]; omega) hF hn (lst_ext HLY.out (ext_trans HE.out hE')) (rdY_take (rdY_ext HU.out (ext_trans HE.out hE')) hlt _ hkc)
          have hcall2 : ∀ W', Ext wr W' → Calls Try.prog 33 #[.slice (some ⟨rb, 0, none⟩) n n, .int .i64 (x : Int), .slice (if c2 = k then A2 else Option.map (fun x => x.add (k * 2)) A2) (u.length - k) (c2 - k)] W' fun e w'' => e = .returned (.bool (tk (.node 4 m [p]) (u.drop k))) ∧ Ext W' w'' := fun W' hE' =>
            HBB.out (u.length - k) (by omega) _ rb n x _ (u.drop k) W' hSt (by rw [List.length_drop]; exact Nat.le_refl _) hFt hn (lst_ext HLST.out (ext_trans HE.out hE')) (rdY_from (rdY_ext HU.out (ext_trans HE.out hE')) hlt)
          have HCUT2 := Lib.hid hcut
          clear hcut
          cases hbk : tk p (u.take k) with
          | false =>
            rw [hbk] at hcall
            have HBK := Lib.hid hbk
            have HC := Lib.hid hcall
            clear hbk hcall hcall2
            go_wp2
            refine wp_region_free 23 [0, 1, 2, 3, 4, 5, 6, 7, 8, 9, 10, 11, 12, 13, 14, 15, 16, 17, 18, 19, 20, 21, 22] [] (by kernel_rfl) (by kernel_rfl) ?_
            repeat (refine wpLoose_step rfl (fun K hK => ?_); (try simp only [Oper.quietAt, Oper.quietUpon]); go_simp; first | (refine hK _ ?_; clear hK K) | (apply Exists.intro; refine ⟨fun p => ?_, hK _ ?_⟩; ((go_at_call 33; exact HC.out _ (ext_grow (ext_refl _) _ _))); clear hK K))
            refine wpLoose_nil (wpFresh_nil (fun w3 hE3 _ => ?_))
            have HE3 := Lib.hid (ext_trans HE.out hE3)
            have HB3 := Lib.hid ((ext_block hE3 lb).trans HB.out)
            clear hE3
            simp only [List.drop_succ_cons, List.drop_zero]
            refine wpList_nil ?_
            go_wp2
            go_roundw
            case rel => exact ⟨k + 1, by omega, by omega, by go_num, fun k' h1 hk' => by
              by_cases h : k' < k
              · exact HNO.out k' h1 h
              · obtain rfl : k' = k := by omega
                rw [HBK.out]; simp, HE3.out, HB3.out⟩
            case measure => simp [intOf]; omega
          | true =>
            rw [hbk] at hcall
            have HBK := Lib.hid hbk
            have HC := Lib.hid hcall
            clear hbk hcall
            by_cases hkl : k = u.length
            · have HKL := Lib.hid hkl
              have dk : ((k : Int) == (u.length : Int)) = true := by rw [beq_iff_eq]; omega
              clear hkl hcall2
              go_wp2
              refine wp_region_free 23 [0, 1, 2, 3, 4, 5, 6, 7, 8, 9, 10, 11, 12, 13, 14, 15, 16, 17, 18, 19, 20, 21, 22] [] (by kernel_rfl) (by kernel_rfl) ?_
              repeat (refine wpLoose_step rfl (fun K hK => ?_); (try simp only [Oper.quietAt, Oper.quietUpon]); go_simp; first | (refine hK _ ?_; clear hK K) | (apply Exists.intro; refine ⟨fun p => ?_, hK _ ?_⟩; ((go_at_call 33; exact HC.out _ (ext_grow (ext_refl _) _ _))); clear hK K))
              refine wpLoose_nil (wpFresh_nil (fun w3 hE3 _ => ?_))
              have HE3 := Lib.hid (ext_trans HE.out hE3)
              have HB3 := Lib.hid ((ext_block hE3 lb).trans HB.out)
              clear hE3
              simp only [List.drop_succ_cons, List.drop_zero]
              refine wpList_nil ?_
              go_wp2
              refine bodyPost_ret (results_tmp rfl _ _ _) rfl ?_
              exact ⟨by rw [(tk_iff _ _).2 ((HCUT2.out u HUNE.out).2 ⟨k, hk1, hlt, (tk_iff _ _).1 HBK.out, .inl HKL.out⟩)]; rfl, HE3.out⟩
            · have dk : ((k : Int) == (u.length : Int)) = false := by rw [beq_eq_false_iff_ne]; omega
              cases hb2 : tk (.node 4 m [p]) (u.drop k) with
              | false =>
                rw [hb2] at hcall2
                have HB2 := Lib.hid hb2
                have HC2 := Lib.hid hcall2
                clear hb2 hcall2
                go_wp2
                refine wp_region_free 23 [0, 1, 2, 3, 4, 5, 6, 7, 8, 9, 10, 11, 12, 13, 14, 15, 16, 17, 18, 19, 20, 21, 22] [] (by kernel_rfl) (by kernel_rfl) ?_
                iterate 9 (refine wpLoose_step rfl (fun K hK => ?_); (try simp only [Oper.quietAt, Oper.quietUpon]); go_simp; first | (refine hK _ ?_; clear hK K) | (apply Exists.intro; refine ⟨fun p => ?_, hK _ ?_⟩; (go_at_call 33; exact HC.out _ (ext_grow (ext_refl _) _ _)); clear hK K))
                repeat (refine wpLoose_step rfl (fun K hK => ?_); (try simp only [Oper.quietAt, Oper.quietUpon]); go_simp; first | (refine hK _ ?_; clear hK K) | (apply Exists.intro; refine ⟨fun p => ?_, hK _ ?_⟩; (go_at_call 33; exact HC2.out _ (ext_grow (ext_refl _) _ _)); clear hK K))
                refine wpLoose_nil (wpFresh_nil (fun w3 hE3 _ => ?_))
                have HE3 := Lib.hid (ext_trans HE.out hE3)
                have HB3 := Lib.hid ((ext_block hE3 lb).trans HB.out)
                clear hE3
                simp only [List.drop_succ_cons, List.drop_zero]
                refine wpList_nil ?_
                go_wp2
                go_roundw
                case rel => exact ⟨k + 1, by omega, by omega, by go_num, fun k' h1 hk' => by
                  by_cases h : k' < k
                  · exact HNO.out k' h1 h
                  · obtain rfl : k' = k := by omega
                    rw [HB2.out]; simp; exact fun _ => hkl, HE3.out, HB3.out⟩
                case measure => simp [intOf]; omega
              | true =>
                rw [hb2] at hcall2
                have HB2 := Lib.hid hb2
                have HC2 := Lib.hid hcall2
                clear hb2 hcall2
                go_wp2
                refine wp_region_free 23 [0, 1, 2, 3, 4, 5, 6, 7, 8, 9, 10, 11, 12, 13, 14, 15, 16, 17, 18, 19, 20, 21, 22] [] (by kernel_rfl) (by kernel_rfl) ?_
                iterate 9 (refine wpLoose_step rfl (fun K hK => ?_); (try simp only [Oper.quietAt, Oper.quietUpon]); go_simp; first | (refine hK _ ?_; clear hK K) | (apply Exists.intro; refine ⟨fun p => ?_, hK _ ?_⟩; (go_at_call 33; exact HC.out _ (ext_grow (ext_refl _) _ _)); clear hK K))
                repeat (refine wpLoose_step rfl (fun K hK => ?_); (try simp only [Oper.quietAt, Oper.quietUpon]); go_simp; first | (refine hK _ ?_; clear hK K) | (apply Exists.intro; refine ⟨fun p => ?_, hK _ ?_⟩; (go_at_call 33; exact HC2.out _ (ext_grow (ext_refl _) _ _)); clear hK K))
                refine wpLoose_nil (wpFresh_nil (fun w3 hE3 _ => ?_))
                have HE3 := Lib.hid (ext_trans HE.out hE3)
                have HB3 := Lib.hid ((ext_block hE3 lb).trans HB.out)
                clear hE3
                simp only [List.drop_succ_cons, List.drop_zero]
                refine wpList_nil ?_
                go_wp2
                all_goals refine bodyPost_ret (results_tmp rfl _ _ _) rfl ?_
                all_goals exact ⟨by rw [(tk_iff _ _).2 ((HCUT2.out u HUNE.out).2 ⟨k, hk1, hlt, (tk_iff _ _).1 HBK.out, .inr ((tk_iff _ _).1 HB2.out)⟩)]; rfl, HE3.out⟩
        · have hki : ¬ (k : Int) ≤ (u.length : Int) := by omega
          have HCUT2 := Lib.hid hcut
          clear hcut
          go_wp2
          refine bodyPost_ret (results_tmp rfl _ _ _) rfl ?_
          exact ⟨by
            rw [tk_false]
            · rfl
            · intro h
              obtain ⟨k', h1, h2, h3, h4⟩ := (HCUT2.out u HUNE.out).1 h
              exact HNO.out k' h1 (by omega) ⟨(tk_iff _ _).2 h3, h4.imp id (tk_iff _ _).2⟩, HE.out⟩
    · go_enter Try.func33, Try.ntmps33
      go_wp2
      go_loopw [9] (fun x wr => ∃ k : Nat, 1 ≤ k ∧ k ≤ u.length + 1 ∧ x = .int .i64 (k : Int) ∧ (∀ k', 1 ≤ k' → k' < k → ¬ (tk p (u.take k') = true ∧ (k' = u.length ∨ tk (.node 5 m [p]) (u.drop k') = true))) ∧ Ext w wr ∧ wr.heap[w.heap.size]? = some (.cells #[.int .i64 5, .int .i64 m, .slice (some ⟨g, 0, none⟩) 1 c] 102 (0, 0))) (fun x _ => u.length + 1 - (intOf x).toNat)
      case atStart => exact ⟨1, Nat.le_refl _, by omega, rfl, fun k' h h2 => by omega, ext_alloc (ext_refl _) _, heap_alloc_new _ _⟩
      case round =>
        rename World => wr
        obtain ⟨k, hk1, hk, rfl, hno, hE, hb⟩ := hrel
        have HNO := Lib.hid hno
        have HE := Lib.hid hE
        have HB := Lib.hid hb
        have p2 : wr.cell? ⟨w.heap.size, 2, none⟩ = some (.slice (some ⟨g, 0, none⟩) 1 c) := block_cell hb 2
        have lb := block_lt hb
        have hgy' := (ext_cell HE.out _ _ lg).trans hgy
        have lg' := ext_lt HE.out lg
        have hcut := HCUT.out
        clear hno hE hb q1 q2 q3 lrb
        by_cases hlt : k ≤ u.length
        · have hki : (k : Int) ≤ (u.length : Int) := by omega
          have hk0 : (0 : Int) ≤ (k : Int) := by omega
          have hkc : k ≤ c2 := by omega
          have hgc := cell_grown
          have hcall : ∀ W', Ext wr W' → Calls Try.prog 33 #[.slice (some ⟨rb, 0, none⟩) n n, .int .i64 (y : Int), .slice A2 k c2] W' fun e w'' => e = .returned (.bool (tk p (u.take k))) ∧ Ext W' w'' := fun W' hE' =>
            HT.out p rb n y _ (u.take k) W' hN (by rw [List.length_take]; omega) hF hn (lst_ext HLY.out (ext_trans HE.out hE')) (rdY_take (rdY_ext HU.out (ext_trans HE.out hE')) hlt _ hkc)
          have hcall2 : ∀ W', Ext wr W' → Calls Try.prog 33 #[.slice (some ⟨rb, 0, none⟩) n n, .int .i64 (x : Int), .slice (if c2 = k then A2 else Option.map (fun x => x.add (k * 2)) A2) (u.length - k) (c2 - k)] W' fun e w'' => e = .returned (.bool (tk (.node 5 m [p]) (u.drop k))) ∧ Ext W' w'' := fun W' hE' =>
            HBB.out (u.length - k) (by omega) _ rb n x _ (u.drop k) W' hSt (by rw [List.length_drop]; exact Nat.le_refl _) hFt hn (lst_ext HLST.out (ext_trans HE.out hE')) (rdY_from (rdY_ext HU.out (ext_trans HE.out hE')) hlt)
          have HCUT2 := Lib.hid hcut
          clear hcut
          cases hbk : tk p (u.take k) with
          | false =>
            rw [hbk] at hcall
            have HBK := Lib.hid hbk
            have HC := Lib.hid hcall
            clear hbk hcall hcall2
            go_wp2
            refine wp_region_free 23 [0, 1, 2, 3, 4, 5, 6, 7, 8, 9, 10, 11, 12, 13, 14, 15, 16, 17, 18, 19, 20, 21, 22] [] (by kernel_rfl) (by kernel_rfl) ?_
            repeat (refine wpLoose_step rfl (fun K hK => ?_); (try simp only [Oper.quietAt, Oper.quietUpon]); go_simp; first | (refine hK _ ?_; clear hK K) | (apply Exists.intro; refine ⟨fun p => ?_, hK _ ?_⟩; ((go_at_call 33; exact HC.out _ (ext_grow (ext_refl _) _ _))); clear hK K))
            refine wpLoose_nil (wpFresh_nil (fun w3 hE3 _ => ?_))
            have HE3 := Lib.hid (ext_trans HE.out hE3)
            have HB3 := Lib.hid ((ext_block hE3 lb).trans HB.out)
            clear hE3
            simp only [List.drop_succ_cons, List.drop_zero]
            refine wpList_nil ?_
            go_wp2
            go_roundw
            case rel => exact ⟨k + 1, by omega, by omega, by go_num, fun k' h1 hk' => by
              by_cases h : k' < k
              · exact HNO.out k' h1 h
              · obtain rfl : k' = k := by omega
                rw [HBK.out]; simp, HE3.out, HB3.out⟩
            case measure => simp [intOf]; omega
          | true =>
            rw [hbk] at hcall
            have HBK := Lib.hid hbk
            have HC := Lib.hid hcall
            clear hbk hcall
            by_cases hkl : k = u.length
            · have HKL := Lib.hid hkl
              have dk : ((k : Int) == (u.length : Int)) = true := by rw [beq_iff_eq]; omega
              clear hkl hcall2
              go_wp2
              refine wp_region_free 23 [0, 1, 2, 3, 4, 5, 6, 7, 8, 9, 10, 11, 12, 13, 14, 15, 16, 17, 18, 19, 20, 21, 22] [] (by kernel_rfl) (by kernel_rfl) ?_
              repeat (refine wpLoose_step rfl (fun K hK => ?_); (try simp only [Oper.quietAt, Oper.quietUpon]); go_simp; first | (refine hK _ ?_; clear hK K) | (apply Exists.intro; refine ⟨fun p => ?_, hK _ ?_⟩; ((go_at_call 33; exact HC.out _ (ext_grow (ext_refl _) _ _))); clear hK K))
              refine wpLoose_nil (wpFresh_nil (fun w3 hE3 _ => ?_))
              have HE3 := Lib.hid (ext_trans HE.out hE3)
              have HB3 := Lib.hid ((ext_block hE3 lb).trans HB.out)
              clear hE3
              simp only [List.drop_succ_cons, List.drop_zero]
              refine wpList_nil ?_
              go_wp2
              refine bodyPost_ret (results_tmp rfl _ _ _) rfl ?_
              exact ⟨by rw [(tk_iff _ _).2 ((HCUT2.out u HUNE.out).2 ⟨k, hk1, hlt, (tk_iff _ _).1 HBK.out, .inl HKL.out⟩)]; rfl, HE3.out⟩
            · have dk : ((k : Int) == (u.length : Int)) = false := by rw [beq_eq_false_iff_ne]; omega
              cases hb2 : tk (.node 5 m [p]) (u.drop k) with
              | false =>
                rw [hb2] at hcall2
                have HB2 := Lib.hid hb2
                have HC2 := Lib.hid hcall2
                clear hb2 hcall2
                go_wp2
                refine wp_region_free 23 [0, 1, 2, 3, 4, 5, 6, 7, 8, 9, 10, 11, 12, 13, 14, 15, 16, 17, 18, 19, 20, 21, 22] [] (by kernel_rfl) (by kernel_rfl) ?_
                iterate 9 (refine wpLoose_step rfl (fun K hK => ?_); (try simp only [Oper.quietAt, Oper.quietUpon]); go_simp; first | (refine hK _ ?_; clear hK K) | (apply Exists.intro; refine ⟨fun p => ?_, hK _ ?_⟩; (go_at_call 33; exact HC.out _ (ext_grow (ext_refl _) _ _)); clear hK K))
                repeat (refine wpLoose_step rfl (fun K hK => ?_); (try simp only [Oper.quietAt, Oper.quietUpon]); go_simp; first | (refine hK _ ?_; clear hK K) | (apply Exists.intro; refine ⟨fun p => ?_, hK _ ?_⟩; (go_at_call 33; exact HC2.out _ (ext_grow (ext_refl _) _ _)); clear hK K))
                refine wpLoose_nil (wpFresh_nil (fun w3 hE3 _ => ?_))
                have HE3 := Lib.hid (ext_trans HE.out hE3)
                have HB3 := Lib.hid ((ext_block hE3 lb).trans HB.out)
                clear hE3
                simp only [List.drop_succ_cons, List.drop_zero]
                refine wpList_nil ?_
                go_wp2
                go_roundw
                case rel => exact ⟨k + 1, by omega, by omega, by go_num, fun k' h1 hk' => by
                  by_cases h : k' < k
                  · exact HNO.out k' h1 h
                  · obtain rfl : k' = k := by omega
                    rw [HB2.out]; simp; exact fun _ => hkl, HE3.out, HB3.out⟩
                case measure => simp [intOf]; omega
              | true =>
                rw [hb2] at hcall2
                have HB2 := Lib.hid hb2
                have HC2 := Lib.hid hcall2
                clear hb2 hcall2
                go_wp2
                refine wp_region_free 23 [0, 1, 2, 3, 4, 5, 6, 7, 8, 9, 10, 11, 12, 13, 14, 15, 16, 17, 18, 19, 20, 21, 22] [] (by kernel_rfl) (by kernel_rfl) ?_
                iterate 9 (refine wpLoose_step rfl (fun K hK => ?_); (try simp only [Oper.quietAt, Oper.quietUpon]); go_simp; first | (refine hK _ ?_; clear hK K) | (apply Exists.intro; refine ⟨fun p => ?_, hK _ ?_⟩; (go_at_call 33; exact HC.out _ (ext_grow (ext_refl _) _ _)); clear hK K))
                repeat (refine wpLoose_step rfl (fun K hK => ?_); (try simp only [Oper.quietAt, Oper.quietUpon]); go_simp; first | (refine hK _ ?_; clear hK K) | (apply Exists.intro; refine ⟨fun p => ?_, hK _ ?_⟩; (go_at_call 33; exact HC2.out _ (ext_grow (ext_refl _) _ _)); clear hK K))
                refine wpLoose_nil (wpFresh_nil (fun w3 hE3 _ => ?_))
                have HE3 := Lib.hid (ext_trans HE.out hE3)
                have HB3 := Lib.hid ((ext_block hE3 lb).trans HB.out)
                clear hE3
                simp only [List.drop_succ_cons, List.drop_zero]
                refine wpList_nil ?_
                go_wp2
                all_goals refine bodyPost_ret (results_tmp rfl _ _ _) rfl ?_
                all_goals exact ⟨by rw [(tk_iff _ _).2 ((HCUT2.out u HUNE.out).2 ⟨k, hk1, hlt, (tk_iff _ _).1 HBK.out, .inr ((tk_iff _ _).1 HB2.out)⟩)]; rfl, HE3.out⟩
        · have hki : ¬ (k : Int) ≤ (u.length : Int) := by omega
          have HCUT2 := Lib.hid hcut
          clear hcut
          go_wp2
          refine bodyPost_ret (results_tmp rfl _ _ _) rfl ?_
          exact ⟨by
            rw [tk_false]
            · rfl
            · intro h
              obtain ⟨k', h1, h2, h3, h4⟩ := (HCUT2.out u HUNE.out).1 h
              exact HNO.out k' h1 (by omega) ⟨(tk_iff _ _).2 h3, h4.imp id (tk_iff _ _).2⟩, HE.out⟩
end Go.Proofs.Ytiabmdboacpmcaa
