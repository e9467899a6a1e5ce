/- StoreUndoes, walked. -/
import Derived.Test.YtfaegjlolhpofaaDoorUe
namespace Go.Proofs.YtfaegjlolhpofaaDoor
open Go.RowKit Go.Sort
set_option maxHeartbeats 800000

theorem erase_snoc {L : List Key} {k : Key} (h : k ∉ L) : (L ++ [k]).erase k = L := by
  rw [List.erase_append_right _ h]; simp

/-- of a key some numbers struck -/
def MskP (k q : Key) : Prop := (q.a = k.a ∨ q.a = -1) ∧ (q.b = k.b ∨ q.b = -1) ∧ (q.c = k.c ∨ q.c = -1)
theorem mskP_refl (k : Key) : MskP k k := ⟨.inl rfl, .inl rfl, .inl rfl⟩
theorem mskP_a {k q : Key} (h : MskP k q) : MskP k ⟨-1, q.b, q.c⟩ := ⟨.inr rfl, h.2⟩
theorem mskP_b {k q : Key} (h : MskP k q) : MskP k ⟨q.a, -1, q.c⟩ := ⟨h.1, .inr rfl, h.2.2⟩
theorem mskP_c {k q : Key} (h : MskP k q) : MskP k ⟨q.a, q.b, -1⟩ := ⟨h.1, h.2.1, .inr rfl⟩
theorem addC_zero {room : Int} {L : List Key} {k : Key} (hc : addC room L k = 0) : k ∉ L ∧ Nonneg k ∧ (L.length : Int) < room := by
  unfold addC at hc
  split at hc
  · omega
  · rename_i h1
    split at hc
    · omega
    · rename_i h2
      split at hc
      · omega
      · exact ⟨h2, ⟨by omega, by omega, by omega⟩, by omega⟩

set_option maxRecDepth 100000 in
set_option maxHeartbeats 4000000 in
theorem undoes_row (A0 : Option Addr) (cap : Nat) (acts : List ActV) (k : Key) (w : World) (hL : Laid w) (hA : acts ≠ [] → ∃ b off, A0 = some ⟨b, off, none⟩ ∧ ActsIn w b off acts) (hn : acts.length ≤ 40) :
    Calls Tryd.prog 7 #[.slice A0 acts.length cap, K3 k.a k.b k.c] w fun e w' => e = .returned (.bool true) ∧ Ext w w' := by
  have HL := Lib.hid hL
  have HA := Lib.hid hA
  clear hL hA
  have hn' : ¬ 40 < acts.length := by omega
  have hn2 : (acts.length : Int) ≤ 40 := by omega
  go_enter Tryd.func7, Tryd.ntmps7
  go_wp2_with (first
    | (go_at_call 9; refine (awake_any _ (laid_ext HL.out (ext_alloc (ext_refl _) _))).mono ?_; rintro e w1 ⟨rfl, hE⟩; have HE := Lib.hid (ext_trans (ext_alloc (ext_refl w) (.cells #[.int .i64 k.a, .int .i64 k.b, .int .i64 k.c] 22)) hE); have HK1 := Lib.hid ((ext_block hE (by simp)).trans (heap_alloc_new w (.cells #[.int .i64 k.a, .int .i64 k.b, .int .i64 k.c] 22))); clear hE)
    | (go_at_call 15; refine (new_ok 50 (by decide) (by decide) _).mono ?_; rintro e w2 ⟨rfl, rfl⟩))
  clear hn'
  have HW1 := Lib.hid (show 1 < w1.heap.size from Nat.lt_of_lt_of_le HL.out.1 (ext_size HE.out))
  refine wp_gen (fun W hW => ?_)
  have HI : Hid (Env w w1.heap.size (w1.heap.size + 1) 50 [] [] (.slice none 0 0) (fpS w1.heap.size nilV) [(w.heap.size, key3 k, 22)] W) := Lib.hid (by
    rw [hW]
    have hm := heap_alloc_new (w1.alloc (.cells #[.slice none 0 0, .slice none 0 0, .slice none 0 0, .int .i64 50] 65)) (.cells #[.int .i64 50, .slice none 0 0] 47)
    rw [World.size_alloc] at hm
    have hE2 : Ext w1 ((w1.alloc (.cells #[.slice none 0 0, .slice none 0 0, .slice none 0 0, .int .i64 50] 65)).alloc (.cells #[.int .i64 50, .slice none 0 0] 47)) := ext_alloc (ext_alloc (ext_refl _) _) _
    exact ⟨st_ext (st_new w1 50 HW1.out) (ext_alloc (ext_refl _) _), World.ownsRow_nil _ _ _ _, hm, boxes_cons boxes_nil ((ext_block hE2 (block_lt HK1.out)).trans HK1.out) (by decide) (by decide) (by decide), ext_trans HE.out hE2, low_new (ext_size HE.out), Nat.le_succ_of_le (ext_size HE.out)⟩)
  clear hW
  go_loopw [28] (fun x wr => ∃ (j : Nat) (L : List Key) (A : Option Addr) (c : Nat) (F : Nat → Prop), j ≤ acts.length ∧ x = .int .i64 j ∧ L.length ≤ j ∧ Env w w1.heap.size (w1.heap.size + 1) 50 L L (.slice A L.length c) F [(w.heap.size, key3 k, 22)] wr) (fun x _ => acts.length - (intOf x).toNat)
  case atStart => exact ⟨0, [], none, 0, _, by omega, rfl, by simp, HI.out⟩
  case round =>
    obtain ⟨j, L, A, c, F, hj, rfl, hlen, hI⟩ := hrel
    have HJ := Lib.hid hI
    clear hI
    by_cases hlt : j < acts.length
    · have hji : (j : Int) < (acts.length : Int) := by omega
      have hj0 : (0 : Int) ≤ (j : Int) := by omega
      obtain ⟨x, hx⟩ : ∃ x, acts[j]? = some x := ⟨_, List.getElem?_eq_getElem hlt⟩
      obtain ⟨b, off, hA0, hAI⟩ := HA.out (fun e => by rw [e] at hlt; simp at hlt)
      subst hA0
      obtain ⟨⟨a0, a1, a2, a3, a4⟩, x1, x2, x3, x4⟩ := hAI.2 j x hx
      have hbw := hAI.1
      replace a0 := (ext_cell HJ.out.ext _ _ hbw).trans a0
      replace a1 := (ext_cell HJ.out.ext _ _ hbw).trans a1
      replace a2 := (ext_cell HJ.out.ext _ _ hbw).trans a2
      replace a3 := (ext_cell HJ.out.ext _ _ hbw).trans a3
      replace a4 := (ext_cell HJ.out.ext _ _ hbw).trans a4
      have HX := Lib.hid hx
      have lb := ext_lt HJ.out.ext hbw
      clear hx hbw hAI
      go_wp2_with (first
        | (go_at_call 16; have hM := env_push (env_ext HJ.out (ext_alloc (ext_refl wr) (.cells (actCells x) 39))) (heap_alloc_new wr (.cells (actCells x) 39)) (by decide) (by decide) (by decide); refine (sto_add x.key (laid_ext HL.out hM.ext) hM.st (by omega)).mono ?_; rintro e w3 ⟨rfl, hW3⟩; obtain ⟨F3, hM3⟩ := env_wrote hM hW3; have HM3 := Lib.hid hM3; clear hM hW3 hM3; have n0 : w3.cell? ⟨w1.heap.size + 1, 0, none⟩ = some (.int .i64 50) := block_cell HM3.out.m 0; have n1 : w3.cell? ⟨w1.heap.size + 1, 1, none⟩ = some (.slice A L.length c) := block_cell HM3.out.m 1; have y2 : w3.cell? ⟨wr.heap.size, 2, none⟩ = some (.int .i64 x.key.a) := block_cell (boxes_head HM3.out.boxes) 2; have y3 : w3.cell? ⟨wr.heap.size, 3, none⟩ = some (.int .i64 x.key.b) := block_cell (boxes_head HM3.out.boxes) 3; have y4 : w3.cell? ⟨wr.heap.size, 4, none⟩ = some (.int .i64 x.key.c) := block_cell (boxes_head HM3.out.boxes) 4; have lm3 := block_lt HM3.out.m; have lx3 := block_lt (boxes_head HM3.out.boxes))
        | (go_at_call 20; refine (refadd_any 50 _ L x.key _ HM3.out.row (by omega)).mono ?_; rintro e w4 ⟨lv4, rfl, hr4, hE4⟩; obtain ⟨A4, c4, rfl⟩ := rowL_form hr4; have HR4 := Lib.hid hr4; have hM4 := env_ext HM3.out hE4; have HM4 := Lib.hid hM4; clear hr4 hE4 hM4; have z0 := block_frozen HM4.out.m 0; have z1 := block_frozen HM4.out.m 1; have n0 : w4.cell? ⟨w1.heap.size + 1, 0, none⟩ = some (.int .i64 50) := block_cell HM4.out.m 0; have n1 : w4.cell? ⟨w1.heap.size + 1, 1, none⟩ = some (.slice A L.length c) := block_cell HM4.out.m 1; have lm4 := block_lt HM4.out.m))
      have hM5 := env_pop (env_put HM4.out HR4.out)
      have HM5 := Lib.hid hM5
      clear hM5
      go_roundw
      case rel => exact ⟨j + 1, _, A4, c4, F3, by omega, by go_num, Nat.le_trans (addL_length 50 L x.key) (by omega), HM5.out⟩
      case measure => simp [intOf]; omega
    · obtain rfl : j = acts.length := by omega
      have k0 : wr.cell? ⟨w.heap.size, 0, none⟩ = some (.int .i64 k.a) := block_cell (boxes_head HJ.out.boxes) 0
      have k1 : wr.cell? ⟨w.heap.size, 1, none⟩ = some (.int .i64 k.b) := block_cell (boxes_head HJ.out.boxes) 1
      have k2 : wr.cell? ⟨w.heap.size, 2, none⟩ = some (.int .i64 k.c) := block_cell (boxes_head HJ.out.boxes) 2
      have lk := block_lt (boxes_head HJ.out.boxes)
      by_cases hc : addC 50 L k = 0
      · have hkL : k ∉ L := (addC_zero hc).1
        have hal : addL 50 L k = L ++ [k] := by unfold addL; rw [if_pos hc]
        have hre : remC (L ++ [k]) k = 0 := by unfold remC; rw [if_pos (by simp)]
        have HRL := Lib.hid (show remL (L ++ [k]) k = L from erase_snoc hkL)
        have HC := Lib.hid hc
        have HAL := Lib.hid hal
        have HRE := Lib.hid hre
        clear hc hal hre hkL
        go_wp2_with (first
          | (go_at_call 16; refine (sto_add k (laid_ext HL.out HJ.out.ext) HJ.out.st (by omega)).mono ?_; rintro e w3 ⟨rfl, hW3⟩; obtain ⟨F3, hM3⟩ := env_wrote HJ.out hW3; rw [HAL.out] at hM3; rw [HC.out]; have HM3 := Lib.hid hM3; clear hW3 hM3; have k0 : w3.cell? ⟨w.heap.size, 0, none⟩ = some (.int .i64 k.a) := block_cell (boxes_head HM3.out.boxes) 0; have k1 : w3.cell? ⟨w.heap.size, 1, none⟩ = some (.int .i64 k.b) := block_cell (boxes_head HM3.out.boxes) 1; have k2 : w3.cell? ⟨w.heap.size, 2, none⟩ = some (.int .i64 k.c) := block_cell (boxes_head HM3.out.boxes) 2; have lk3 := block_lt (boxes_head HM3.out.boxes))
          | (go_at_call 24; refine (sto_remove k (laid_ext HL.out HM3.out.ext) HM3.out.st (by simp; omega)).mono ?_; rintro e wz ⟨rfl, hW4⟩; obtain ⟨F4, hM4⟩ := env_wrote HM3.out hW4; rw [HRL.out] at hM4; rw [HRE.out]; have HZ := Lib.hid hM4; clear hW4 hM4))
        go_loopw [54] (fun x wm => ∃ mm : Nat, mm ≤ 8 ∧ x = .int .i64 mm ∧ Ext wz wm) (fun x _ => 8 - (intOf x).toNat)
        case atStart => exact ⟨0, by omega, rfl, ext_refl _⟩
        case round =>
          rename World => wm
          obtain ⟨mm, hmm, rfl, hEm⟩ := hrel
          have HEm := Lib.hid hEm
          have hN := env_ext HZ.out hEm
          have HN := Lib.hid hN
          clear hEm hN
          by_cases hm8 : mm < 8
          · have hmi : (mm : Int) < 8 := by omega
            have hm0 : (0 : Int) ≤ (mm : Int) := by omega
            have k0 : wm.cell? ⟨w.heap.size, 0, none⟩ = some (.int .i64 k.a) := block_cell (boxes_head HN.out.boxes) 0
            have k1 : wm.cell? ⟨w.heap.size, 1, none⟩ = some (.int .i64 k.b) := block_cell (boxes_head HN.out.boxes) 1
            have k2 : wm.cell? ⟨w.heap.size, 2, none⟩ = some (.int .i64 k.c) := block_cell (boxes_head HN.out.boxes) 2
            have lk := block_lt (boxes_head HN.out.boxes)
            go_wp2
            clear k0 k1 k2 lk
            refine wp_gen (fun W7 hW7 => ?_)
            have HP7 : Hid (W7.heap[wm.heap.size]? = some (.cells (key3 k) 22 (0, 0))) := Lib.hid (by rw [hW7]; exact heap_alloc_new wm _)
            have HE7 : Hid (Ext wm W7) := Lib.hid (by rw [hW7]; exact ext_alloc (ext_refl _) _)
            clear hW7
            go_loopw [58] (fun x wi => ∃ q : Key, wi.heap[wm.heap.size]? = some (.cells (key3 q) 22 (0, 0)) ∧ MskP k q ∧ Ext wm wi ∧ (x = .int .i64 0 ∨ x = .int .i64 1 ∨ x = .int .i64 2 ∨ x = .int .i64 3)) (fun x _ => 3 - (intOf x).toNat)
            case atStart => exact ⟨k, HP7.out, mskP_refl k, HE7.out, .inl rfl⟩
            case round =>
              rename World => wi
              obtain ⟨q, hq, hqp, hEi, hx⟩ := hrel
              have HQ := Lib.hid hq
              have HQP := Lib.hid hqp
              have HEi := Lib.hid hEi
              clear hq hqp hEi
              have q0 : wi.cell? ⟨wm.heap.size, 0, none⟩ = some (.int .i64 q.a) := block_cell HQ.out 0
              have q1 : wi.cell? ⟨wm.heap.size, 1, none⟩ = some (.int .i64 q.b) := block_cell HQ.out 1
              have q2 : wi.cell? ⟨wm.heap.size, 2, none⟩ = some (.int .i64 q.c) := block_cell HQ.out 2
              have z0 := block_frozen HQ.out 0
              have z1 := block_frozen HQ.out 1
              have z2 := block_frozen HQ.out 2
              have lq := block_lt HQ.out
              rcases hx with rfl | rfl | rfl | rfl
              · go_wp2
                all_goals
                  go_roundw
                  case rel => first
                    | exact ⟨⟨-1, q.b, q.c⟩, by rw [heap_setCell_at HQ.out]; rfl, mskP_a HQP.out, ext_set HEi.out (Nat.le_refl _) _, .inr (.inl rfl)⟩
                    | exact ⟨q, HQ.out, HQP.out, HEi.out, .inr (.inl rfl)⟩
                  case measure => simp [intOf]
              · go_wp2
                all_goals
                  go_roundw
                  case rel => first
                    | exact ⟨⟨q.a, -1, q.c⟩, by rw [heap_setCell_at HQ.out]; rfl, mskP_b HQP.out, ext_set HEi.out (Nat.le_refl _) _, .inr (.inr (.inl rfl))⟩
                    | exact ⟨q, HQ.out, HQP.out, HEi.out, .inr (.inr (.inl rfl))⟩
                  case measure => simp [intOf]
              · go_wp2
                all_goals
                  go_roundw
                  case rel => first
                    | exact ⟨⟨q.a, q.b, -1⟩, by rw [heap_setCell_at HQ.out]; rfl, mskP_c HQP.out, ext_set HEi.out (Nat.le_refl _) _, .inr (.inr (.inr rfl))⟩
                    | exact ⟨q, HQ.out, HQP.out, HEi.out, .inr (.inr (.inr rfl))⟩
                  case measure => simp [intOf]
              · have HQI := Lib.hid (env_ext HN.out HEi.out)
                have n0 : wi.cell? ⟨w1.heap.size + 1, 0, none⟩ = some (.int .i64 50) := block_cell HQI.out.m 0
                have n1 : wi.cell? ⟨w1.heap.size + 1, 1, none⟩ = some (.slice A L.length c) := block_cell HQI.out.m 1
                have lmi := block_lt HQI.out.m
                go_wp2_with (go_at_call 25; refine (scanned_any _ q 1000 _ (laid_ext HL.out HQI.out.ext) HQI.out.st HQI.out.row (by omega)).mono ?_; rintro e w8 ⟨rfl, hE8⟩; have HE8 := Lib.hid hE8; clear hE8)
                go_roundw
                case rel => exact ⟨mm + 1, by omega, by go_num, ext_trans HEm.out (ext_trans HEi.out HE8.out)⟩
                case measure => simp [intOf]; omega
          · obtain rfl : mm = 8 := by omega
            have n0 : wm.cell? ⟨w1.heap.size + 1, 0, none⟩ = some (.int .i64 50) := block_cell HN.out.m 0
            have n1 : wm.cell? ⟨w1.heap.size + 1, 1, none⟩ = some (.slice A L.length c) := block_cell HN.out.m 1
            have lmi := block_lt HN.out.m
            have hgc := cell_grown
            go_wp2
            refine wp_region_free 7 [0, 1, 2, 3, 4, 5, 6] [] (by kernel_rfl) (by kernel_rfl) ?_
            repeat (refine wpLoose_step rfl (fun K hK => ?_); (try simp only [Oper.quietAt, Oper.quietUpon]); go_simp; first
              | (refine hK _ ?_; clear hK K)
              | (apply Exists.intro; refine ⟨fun pp => ?_, hK _ ?_⟩; (go_at_call 27; (refine (sto_len (st_ext HN.out.st (ext_grow (ext_refl _) _ _))).mono (fun _ _ h => ⟨h.1, by rw [← h.2]; exact ext_refl _⟩)); clear hK K)))
            refine wpLoose_nil (wpFresh_nil (fun w9 hE9 _ => ?_))
            have HE9 := Lib.hid hE9
            clear hE9 n0 n1 lmi hgc
            simp only [List.drop_succ_cons, List.drop_zero]
            refine wpList_nil ?_
            go_wp2
            go_ret
            exact ⟨rfl, ext_trans HN.out.ext HE9.out⟩
      · have HC := Lib.hid hc
        have hcB : (addC 50 L k == 0) = false := by simpa using hc
        clear hc
        have hal : addL 50 L k = L := by unfold addL; rw [if_neg HC.out]
        have HAL := Lib.hid hal
        clear hal
        go_wp2_with (go_at_call 16; refine (sto_add k (laid_ext HL.out HJ.out.ext) HJ.out.st (by omega)).mono ?_; rintro e wz ⟨rfl, hW3⟩; obtain ⟨F3, hM3⟩ := env_wrote HJ.out hW3; rw [HAL.out] at hM3; have HZ := Lib.hid hM3; clear hW3 hM3)
        go_loopw [54] (fun x wm => ∃ mm : Nat, mm ≤ 8 ∧ x = .int .i64 mm ∧ Ext wz wm) (fun x _ => 8 - (intOf x).toNat)
        case atStart => exact ⟨0, by omega, rfl, ext_refl _⟩
        case round =>
          rename World => wm
          obtain ⟨mm, hmm, rfl, hEm⟩ := hrel
          have HEm := Lib.hid hEm
          have hN := env_ext HZ.out hEm
          have HN := Lib.hid hN
          clear hEm hN
          by_cases hm8 : mm < 8
          · have hmi : (mm : Int) < 8 := by omega
            have hm0 : (0 : Int) ≤ (mm : Int) := by omega
            have k0 : wm.cell? ⟨w.heap.size, 0, none⟩ = some (.int .i64 k.a) := block_cell (boxes_head HN.out.boxes) 0
            have k1 : wm.cell? ⟨w.heap.size, 1, none⟩ = some (.int .i64 k.b) := block_cell (boxes_head HN.out.boxes) 1
            have k2 : wm.cell? ⟨w.heap.size, 2, none⟩ = some (.int .i64 k.c) := block_cell (boxes_head HN.out.boxes) 2
            have lk := block_lt (boxes_head HN.out.boxes)
            go_wp2
            clear k0 k1 k2 lk
            refine wp_gen (fun W7 hW7 => ?_)
            have HP7 : Hid (W7.heap[wm.heap.size]? = some (.cells (key3 k) 22 (0, 0))) := Lib.hid (by rw [hW7]; exact heap_alloc_new wm _)
            have HE7 : Hid (Ext wm W7) := Lib.hid (by rw [hW7]; exact ext_alloc (ext_refl _) _)
            clear hW7
            go_loopw [58] (fun x wi => ∃ q : Key, wi.heap[wm.heap.size]? = some (.cells (key3 q) 22 (0, 0)) ∧ MskP k q ∧ Ext wm wi ∧ (x = .int .i64 0 ∨ x = .int .i64 1 ∨ x = .int .i64 2 ∨ x = .int .i64 3)) (fun x _ => 3 - (intOf x).toNat)
            case atStart => exact ⟨k, HP7.out, mskP_refl k, HE7.out, .inl rfl⟩
            case round =>
              rename World => wi
              obtain ⟨q, hq, hqp, hEi, hx⟩ := hrel
              have HQ := Lib.hid hq
              have HQP := Lib.hid hqp
              have HEi := Lib.hid hEi
              clear hq hqp hEi
              have q0 : wi.cell? ⟨wm.heap.size, 0, none⟩ = some (.int .i64 q.a) := block_cell HQ.out 0
              have q1 : wi.cell? ⟨wm.heap.size, 1, none⟩ = some (.int .i64 q.b) := block_cell HQ.out 1
              have q2 : wi.cell? ⟨wm.heap.size, 2, none⟩ = some (.int .i64 q.c) := block_cell HQ.out 2
              have z0 := block_frozen HQ.out 0
              have z1 := block_frozen HQ.out 1
              have z2 := block_frozen HQ.out 2
              have lq := block_lt HQ.out
              rcases hx with rfl | rfl | rfl | rfl
              · go_wp2
                all_goals
                  go_roundw
                  case rel => first
                    | exact ⟨⟨-1, q.b, q.c⟩, by rw [heap_setCell_at HQ.out]; rfl, mskP_a HQP.out, ext_set HEi.out (Nat.le_refl _) _, .inr (.inl rfl)⟩
                    | exact ⟨q, HQ.out, HQP.out, HEi.out, .inr (.inl rfl)⟩
                  case measure => simp [intOf]
              · go_wp2
                all_goals
                  go_roundw
                  case rel => first
                    | exact ⟨⟨q.a, -1, q.c⟩, by rw [heap_setCell_at HQ.out]; rfl, mskP_b HQP.out, ext_set HEi.out (Nat.le_refl _) _, .inr (.inr (.inl rfl))⟩
                    | exact ⟨q, HQ.out, HQP.out, HEi.out, .inr (.inr (.inl rfl))⟩
                  case measure => simp [intOf]
              · go_wp2
                all_goals
                  go_roundw
                  case rel => first
                    | exact ⟨⟨q.a, q.b, -1⟩, by rw [heap_setCell_at HQ.out]; rfl, mskP_c HQP.out, ext_set HEi.out (Nat.le_refl _) _, .inr (.inr (.inr rfl))⟩
                    | exact ⟨q, HQ.out, HQP.out, HEi.out, .inr (.inr (.inr rfl))⟩
                  case measure => simp [intOf]
              · have HQI := Lib.hid (env_ext HN.out HEi.out)
                have n0 : wi.cell? ⟨w1.heap.size + 1, 0, none⟩ = some (.int .i64 50) := block_cell HQI.out.m 0
                have n1 : wi.cell? ⟨w1.heap.size + 1, 1, none⟩ = some (.slice A L.length c) := block_cell HQI.out.m 1
                have lmi := block_lt HQI.out.m
                go_wp2_with (go_at_call 25; refine (scanned_any _ q 1000 _ (laid_ext HL.out HQI.out.ext) HQI.out.st HQI.out.row (by omega)).mono ?_; rintro e w8 ⟨rfl, hE8⟩; have HE8 := Lib.hid hE8; clear hE8)
                go_roundw
                case rel => exact ⟨mm + 1, by omega, by go_num, ext_trans HEm.out (ext_trans HEi.out HE8.out)⟩
                case measure => simp [intOf]; omega
          · obtain rfl : mm = 8 := by omega
            have n0 : wm.cell? ⟨w1.heap.size + 1, 0, none⟩ = some (.int .i64 50) := block_cell HN.out.m 0
            have n1 : wm.cell? ⟨w1.heap.size + 1, 1, none⟩ = some (.slice A L.length c) := block_cell HN.out.m 1
            have lmi := block_lt HN.out.m
            have hgc := cell_grown
            go_wp2
            refine wp_region_free 7 [0, 1, 2, 3, 4, 5, 6] [] (by kernel_rfl) (by kernel_rfl) ?_
            repeat (refine wpLoose_step rfl (fun K hK => ?_); (try simp only [Oper.quietAt, Oper.quietUpon]); go_simp; first
              | (refine hK _ ?_; clear hK K)
              | (apply Exists.intro; refine ⟨fun pp => ?_, hK _ ?_⟩; (go_at_call 27; (refine (sto_len (st_ext HN.out.st (ext_grow (ext_refl _) _ _))).mono (fun _ _ h => ⟨h.1, by rw [← h.2]; exact ext_refl _⟩)); clear hK K)))
            refine wpLoose_nil (wpFresh_nil (fun w9 hE9 _ => ?_))
            have HE9 := Lib.hid hE9
            clear hE9 n0 n1 lmi hgc
            simp only [List.drop_succ_cons, List.drop_zero]
            refine wpList_nil ?_
            go_wp2
            go_ret
            exact ⟨rfl, ext_trans HN.out.ext HE9.out⟩
end Go.Proofs.YtfaegjlolhpofaaDoor
