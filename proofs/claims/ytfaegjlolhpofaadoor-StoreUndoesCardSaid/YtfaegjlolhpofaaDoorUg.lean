/- StoreAgrees, walked. -/
import Derived.Test.YtfaegjlolhpofaaDoorUf
namespace Go.Proofs.YtfaegjlolhpofaaDoor
open Go.RowKit Go.Sort
set_option maxHeartbeats 800000

theorem mem_addL {L : List Key} {k y : Key} (h : (L.length : Int) < 50) : k ∈ addL 50 L y ↔ k ∈ L ∨ (y = k ∧ Nonneg k) := by
  unfold addL
  by_cases hc : addC 50 L y = 0
  · rw [if_pos hc]
    have := addC_zero hc
    constructor
    · intro hm
      rcases List.mem_append.1 hm with hm | hm
      · exact .inl hm
      · rw [List.mem_singleton.1 hm]; exact .inr ⟨rfl, this.2.1⟩
    · rintro (hm | ⟨rfl, _⟩)
      · exact List.mem_append_left _ hm
      · simp
  · rw [if_neg hc]
    refine ⟨.inl, ?_⟩
    rintro (hm | ⟨rfl, hn⟩)
    · exact hm
    · refine Classical.byContradiction fun hm => hc ?_
      unfold addC
      obtain ⟨n1, n2, n3⟩ := hn
      rw [if_neg (by omega), if_neg hm, if_neg (by omega)]
theorem there_yes {L : List Key} {k y : Key} (e : y = k) (h1 : 0 ≤ k.a) (h2 : 0 ≤ k.b) (h3 : 0 ≤ k.c) (h : (L.length : Int) < 50) : (1 : Int) = if k ∈ addL 50 L y then 1 else 0 := by
  rw [if_pos ((mem_addL h).2 (.inr ⟨e, h1, h2, h3⟩))]
theorem there_no {L : List Key} {k y : Key} {tv : Int} (ht : tv = if k ∈ L then 1 else 0) (e : ¬ (y = k ∧ Nonneg k)) (h : (L.length : Int) < 50) : tv = if k ∈ addL 50 L y then 1 else 0 := by
  rw [ht]
  by_cases hm : k ∈ L
  · rw [if_pos hm, if_pos ((mem_addL h).2 (.inl hm))]
  · rw [if_neg hm, if_neg (fun hh => ((mem_addL h).1 hh).elim hm e)]
theorem count_scan {L : List Key} {k q : Key} (hq : MskP k q) (hd : L.Nodup) : (scanL q L).count k = if k ∈ L then 1 else 0 := by
  have hf : fitsB q k = true := fitsB_iff.2 ⟨hq.1.elim (fun h => .inr h) (fun h => .inl (by omega)), hq.2.1.elim (fun h => .inr h) (fun h => .inl (by omega)), hq.2.2.elim (fun h => .inr h) (fun h => .inl (by omega))⟩
  rw [(scanL_perm q L hd).count_eq, List.count_filter hf]
  exact List.Nodup.count hd

def AgJ (bn : Nat) (k : Key) (w2 : World) (pre : List Key) (W : World) : Prop := W.heap[bn]? = some (.cells #[.int .i64 (pre.count k : Nat)] 3 (0, 0)) ∧ Upd (fun b => b = bn) w2 W
theorem agJ_ext {bn : Nat} {k : Key} {w2 : World} (pre : List Key) (W1 W2 : World) (h : AgJ bn k w2 pre W1) (hE : Ext W1 W2) : AgJ bn k w2 pre W2 :=
  ⟨(ext_block hE (block_lt h.1)).trans h.1, upd_trans h.2 (upd_of_ext (fp := fun b => b = bn) hE) (fun _ _ h => h)⟩
theorem ag_told {bk bn : Nat} {k : Key} {w2 : World} {M : List Key} (hM : M.length ≤ 100000) (h1 : w2.heap[bk]? = some (.cells (key3 k) 22 (0, 0))) (hne : bk ≠ bn) (pre : List Key) (x : Key) (W1 : World) (hJ : AgJ bn k w2 pre W1) (hp : pre ++ [x] <+: M) :
    Told (.func (.func 18) #[] #[.pointer (some ⟨bk, 0, none⟩), .pointer (some ⟨bn, 0, none⟩)]) x W1 (ToldPost (fun b => b = bn) (AgJ bn k w2) (fun _ _ => False) pre x W1) := by
  refine ⟨fun f lb e => ?_, fun l e => by cases e⟩
  cases e
  have hlt := (prefix_kat hp).1
  have hcl : pre.count k ≤ pre.length := List.count_le_length
  refine (cb18 k x bk bn (pre.count k) W1 ((hJ.2.block bk (block_lt h1) hne).trans h1) hJ.1 (by omega)).mono ?_
  rintro e W' ⟨rfl, p1, pu⟩
  refine .inl ⟨rfl, ⟨?_, upd_trans hJ.2 pu (fun _ _ h => h)⟩, pu⟩
  rw [p1]
  have : (pre ++ [x]).count k = pre.count k + if x = k then 1 else 0 := by
    rw [List.count_append, List.count_singleton]
    simp only [beq_iff_eq]
  rw [this]

set_option maxRecDepth 100000 in
set_option maxHeartbeats 4000000 in
theorem agrees_row (A0 : Option Addr) (cap : Nat) (acts : List ActV) (k : Key) (w : World) (hL : Laid w) (hA : acts ≠ [] → ∃ b off, A0 = some ⟨b, off, none⟩ ∧ ActsIn w b off acts) (hn : acts.length ≤ 40) :
    Calls Tryd.prog 4 #[.slice A0 acts.length cap, K3 k.a k.b k.c] w fun e w' => e = .returned (.bool true) ∧ Ext w w' := by
  have HL := Lib.hid hL
  have HA := Lib.hid hA
  clear hL hA
  have hn' : ¬ 40 < acts.length := by omega
  have hn2 : (acts.length : Int) ≤ 40 := by omega
  go_enter Tryd.func4, Tryd.ntmps4
  go_wp2_with (first
    | (go_at_call 9; refine (awake_any _ (laid_ext HL.out (ext_alloc (ext_refl _) _))).mono ?_; rintro e w1 ⟨rfl, hE⟩; have HE := Lib.hid (ext_trans (ext_alloc (ext_refl w) (.cells #[.int .i64 k.a, .int .i64 k.b, .int .i64 k.c] 22)) hE); have HK1 := Lib.hid ((ext_block hE (by simp)).trans (heap_alloc_new w (.cells #[.int .i64 k.a, .int .i64 k.b, .int .i64 k.c] 22))); clear hE)
    | (go_at_call 15; refine (new_ok 50 (by decide) (by decide) _).mono ?_; rintro e w2 ⟨rfl, rfl⟩))
  clear hn'
  have HW1 := Lib.hid (show 1 < w1.heap.size from Nat.lt_of_lt_of_le HL.out.1 (ext_size HE.out))
  refine wp_gen (fun W hW => ?_)
  have HI : Hid (EnvS w w1.heap.size 50 [] (fpS w1.heap.size nilV) [(w.heap.size, key3 k, 22)] W) := Lib.hid (by
    rw [hW]
    have hE2 : Ext w1 (w1.alloc (.cells #[.slice none 0 0, .slice none 0 0, .slice none 0 0, .int .i64 50] 65)) := ext_alloc (ext_refl _) _
    exact ⟨st_new w1 50 HW1.out, boxes_cons boxes_nil ((ext_block hE2 (block_lt HK1.out)).trans HK1.out) (by decide) (by decide) (by decide), ext_trans HE.out hE2, low_new (ext_size HE.out)⟩)
  clear hW
  go_loopw [28, 7] (fun x y wr => ∃ (j : Nat) (L : List Key) (tv : Int) (F : Nat → Prop), j ≤ acts.length ∧ x = .int .i64 j ∧ y = .int .i64 tv ∧ (tv = if k ∈ L then 1 else 0) ∧ L.length ≤ j ∧ EnvS w w1.heap.size 50 L F [(w.heap.size, key3 k, 22)] wr) (fun x _ _ => acts.length - (intOf x).toNat)
  case atStart => exact ⟨0, [], 0, _, by omega, rfl, rfl, by simp, by simp, HI.out⟩
  case round =>
    obtain ⟨j, L, tv, F, hj, rfl, rfl, htv, hlen, hI⟩ := hrel
    have HJ := Lib.hid hI
    have HTV := Lib.hid htv
    clear hI htv
    by_cases hlt : j < acts.length
    · have hji : (j : Int) < (acts.length : Int) := by omega
      have hj0 : (0 : Int) ≤ (j : Int) := by omega
      have hj50 : ((j : Int) == 50) = false := by simp; omega
      have hlen50 : (L.length : Int) < 50 := by omega
      have HL50 := Lib.hid hlen50
      clear hlen50
      obtain ⟨x, hx⟩ : ∃ x, acts[j]? = some x := ⟨_, List.getElem?_eq_getElem hlt⟩
      obtain ⟨b, off, hA0, hAI⟩ := HA.out (fun e => by rw [e] at hlt; simp at hlt)
      subst hA0
      obtain ⟨⟨a0, a1, a2, a3, a4⟩, x1, x2, x3, x4⟩ := hAI.2 j x hx
      have hbw := hAI.1
      replace a0 := (ext_cell HJ.out.ext _ _ hbw).trans a0
      replace a1 := (ext_cell HJ.out.ext _ _ hbw).trans a1
      replace a2 := (ext_cell HJ.out.ext _ _ hbw).trans a2
      replace a3 := (ext_cell HJ.out.ext _ _ hbw).trans a3
      replace a4 := (ext_cell HJ.out.ext _ _ hbw).trans a4
      have HX := Lib.hid hx
      have lb := ext_lt HJ.out.ext hbw
      clear hx hbw hAI
      have heq := eq22
      by_cases he : x.key = k
      · have hd : decide (x.key = k) = true := by simp [he]
        have HEQ := Lib.hid he
        clear he
        go_wp2_with (go_at_call 16; have hM := envS_push (envS_ext HJ.out (ext_alloc (ext_refl wr) (.cells (actCells x) 39))) (heap_alloc_new wr (.cells (actCells x) 39)) (by decide) (by decide) (by decide); refine (sto_add x.key (laid_ext HL.out hM.ext) hM.st (by omega)).mono ?_; rintro e w3 ⟨rfl, hW3⟩; obtain ⟨F3, hM3⟩ := envS_wrote hM hW3; have HM3 := Lib.hid hM3; clear hM hW3 hM3; have k0 : w3.cell? ⟨w.heap.size, 0, none⟩ = some (.int .i64 k.a) := block_cell (boxes_2 HM3.out.boxes) 0; have k1 : w3.cell? ⟨w.heap.size, 1, none⟩ = some (.int .i64 k.b) := block_cell (boxes_2 HM3.out.boxes) 1; have k2 : w3.cell? ⟨w.heap.size, 2, none⟩ = some (.int .i64 k.c) := block_cell (boxes_2 HM3.out.boxes) 2; have y2 : w3.cell? ⟨wr.heap.size, 2, none⟩ = some (.int .i64 x.key.a) := block_cell (boxes_head HM3.out.boxes) 2; have y3 : w3.cell? ⟨wr.heap.size, 3, none⟩ = some (.int .i64 x.key.b) := block_cell (boxes_head HM3.out.boxes) 3; have y4 : w3.cell? ⟨wr.heap.size, 4, none⟩ = some (.int .i64 x.key.c) := block_cell (boxes_head HM3.out.boxes) 4; have lk3 := block_lt (boxes_2 HM3.out.boxes); have lx3 := block_lt (boxes_head HM3.out.boxes))
        all_goals
          have HM5 := Lib.hid (envS_pop HM3.out)
          go_roundw
          case rel => first
            | exact ⟨j + 1, _, 1, F3, by omega, by go_num, rfl, there_yes HEQ.out (by omega) (by omega) (by omega) HL50.out, Nat.le_trans (addL_length 50 L x.key) (by omega), HM5.out⟩
            | exact ⟨j + 1, _, tv, F3, by omega, by go_num, rfl, there_no HTV.out (fun h => by have := h.2; unfold Nonneg at this; omega) HL50.out, Nat.le_trans (addL_length 50 L x.key) (by omega), HM5.out⟩
          case measure => simp [intOf]; omega
      · have hd : decide (x.key = k) = false := by simp [he]
        have HEQ := Lib.hid he
        clear he
        go_wp2_with (go_at_call 16; have hM := envS_push (envS_ext HJ.out (ext_alloc (ext_refl wr) (.cells (actCells x) 39))) (heap_alloc_new wr (.cells (actCells x) 39)) (by decide) (by decide) (by decide); refine (sto_add x.key (laid_ext HL.out hM.ext) hM.st (by omega)).mono ?_; rintro e w3 ⟨rfl, hW3⟩; obtain ⟨F3, hM3⟩ := envS_wrote hM hW3; have HM3 := Lib.hid hM3; clear hM hW3 hM3; have k0 : w3.cell? ⟨w.heap.size, 0, none⟩ = some (.int .i64 k.a) := block_cell (boxes_2 HM3.out.boxes) 0; have k1 : w3.cell? ⟨w.heap.size, 1, none⟩ = some (.int .i64 k.b) := block_cell (boxes_2 HM3.out.boxes) 1; have k2 : w3.cell? ⟨w.heap.size, 2, none⟩ = some (.int .i64 k.c) := block_cell (boxes_2 HM3.out.boxes) 2; have y2 : w3.cell? ⟨wr.heap.size, 2, none⟩ = some (.int .i64 x.key.a) := block_cell (boxes_head HM3.out.boxes) 2; have y3 : w3.cell? ⟨wr.heap.size, 3, none⟩ = some (.int .i64 x.key.b) := block_cell (boxes_head HM3.out.boxes) 3; have y4 : w3.cell? ⟨wr.heap.size, 4, none⟩ = some (.int .i64 x.key.c) := block_cell (boxes_head HM3.out.boxes) 4; have lk3 := block_lt (boxes_2 HM3.out.boxes); have lx3 := block_lt (boxes_head HM3.out.boxes))
        have HM5 := Lib.hid (envS_pop HM3.out)
        go_roundw
        case rel => exact ⟨j + 1, _, tv, F3, by omega, by go_num, rfl, there_no HTV.out (fun h => HEQ.out h.1) HL50.out, Nat.le_trans (addL_length 50 L x.key) (by omega), HM5.out⟩
        case measure => simp [intOf]; omega
    · obtain rfl : j = acts.length := by omega
      have HZ := HJ
      obtain ⟨wz, hwz⟩ : ∃ wz, wr = wz := ⟨_, rfl⟩
      rw [hwz] at HZ
      go_wp2
      go_loopw [59] (fun x wm => ∃ mm : Nat, mm ≤ 8 ∧ x = .int .i64 mm ∧ Ext wz wm) (fun x _ => 8 - (intOf x).toNat)
      case atStart => exact ⟨0, by omega, rfl, ext_refl _⟩
      case round =>
        rename World => wm
        obtain ⟨mm, hmm, rfl, hEm⟩ := hrel
        have HEm := Lib.hid hEm
        have hN := envS_ext HZ.out hEm
        have HN := Lib.hid hN
        clear hEm hN
        by_cases hm8 : mm < 8
        · have hmi : (mm : Int) < 8 := by omega
          have hm0 : (0 : Int) ≤ (mm : Int) := by omega
          have k0 : wm.cell? ⟨w.heap.size, 0, none⟩ = some (.int .i64 k.a) := block_cell (boxes_head HN.out.boxes) 0
          have k1 : wm.cell? ⟨w.heap.size, 1, none⟩ = some (.int .i64 k.b) := block_cell (boxes_head HN.out.boxes) 1
          have k2 : wm.cell? ⟨w.heap.size, 2, none⟩ = some (.int .i64 k.c) := block_cell (boxes_head HN.out.boxes) 2
          have lk := block_lt (boxes_head HN.out.boxes)
          go_wp2
          clear k0 k1 k2 lk
          refine wp_gen (fun W7 hW7 => ?_)
          have HP7 : Hid (W7.heap[wm.heap.size]? = some (.cells (key3 k) 22 (0, 0))) := Lib.hid (by rw [hW7]; exact heap_alloc_new wm _)
          have HE7 : Hid (Ext wm W7) := Lib.hid (by rw [hW7]; exact ext_alloc (ext_refl _) _)
          clear hW7
          go_loopw [63] (fun x wi => ∃ q : Key, wi.heap[wm.heap.size]? = some (.cells (key3 q) 22 (0, 0)) ∧ MskP k q ∧ Ext wm wi ∧ (x = .int .i64 0 ∨ x = .int .i64 1 ∨ x = .int .i64 2 ∨ x = .int .i64 3)) (fun x _ => 3 - (intOf x).toNat)
          case atStart => exact ⟨k, HP7.out, mskP_refl k, HE7.out, .inl rfl⟩
          case round =>
            rename World => wi
            obtain ⟨q, hq, hqp, hEi, hx⟩ := hrel
            have HQ := Lib.hid hq
            have HQP := Lib.hid hqp
            have HEi := Lib.hid hEi
            clear hq hqp hEi
            have q0 : wi.cell? ⟨wm.heap.size, 0, none⟩ = some (.int .i64 q.a) := block_cell HQ.out 0
            have q1 : wi.cell? ⟨wm.heap.size, 1, none⟩ = some (.int .i64 q.b) := block_cell HQ.out 1
            have q2 : wi.cell? ⟨wm.heap.size, 2, none⟩ = some (.int .i64 q.c) := block_cell HQ.out 2
            have z0 := block_frozen HQ.out 0
            have z1 := block_frozen HQ.out 1
            have z2 := block_frozen HQ.out 2
            have lq := block_lt HQ.out
            rcases hx with rfl | rfl | rfl | rfl
            · go_wp2
              all_goals
                go_roundw
                case rel => first
                  | exact ⟨⟨-1, q.b, q.c⟩, by rw [heap_setCell_at HQ.out]; rfl, mskP_a HQP.out, ext_set HEi.out (Nat.le_refl _) _, .inr (.inl rfl)⟩
                  | exact ⟨q, HQ.out, HQP.out, HEi.out, .inr (.inl rfl)⟩
                case measure => simp [intOf]
            · go_wp2
              all_goals
                go_roundw
                case rel => first
                  | exact ⟨⟨q.a, -1, q.c⟩, by rw [heap_setCell_at HQ.out]; rfl, mskP_b HQP.out, ext_set HEi.out (Nat.le_refl _) _, .inr (.inr (.inl rfl))⟩
                  | exact ⟨q, HQ.out, HQP.out, HEi.out, .inr (.inr (.inl rfl))⟩
                case measure => simp [intOf]
            · go_wp2
              all_goals
                go_roundw
                case rel => first
                  | exact ⟨⟨q.a, q.b, -1⟩, by rw [heap_setCell_at HQ.out]; rfl, mskP_c HQP.out, ext_set HEi.out (Nat.le_refl _) _, .inr (.inr (.inr rfl))⟩
                  | exact ⟨q, HQ.out, HQP.out, HEi.out, .inr (.inr (.inr rfl))⟩
                case measure => simp [intOf]
            · have HQI := Lib.hid (envS_ext HN.out HEi.out)
              have hd := HQI.out.st.nodup
              have hcnt := count_scan (q := q) HQP.out hd
              have HCNT := Lib.hid hcnt
              clear hd hcnt
              go_wp2_with (first
                | (go_at_call 17; refine (scan_any w1.heap.size q _ ?_).mono ?_; (exact laid_ext HL.out (ext_trans HQI.out.ext (ext_alloc (ext_refl _) _))); rintro e w2 ⟨b1, b2, b3, b4, rfl, hA2, hb2, hE2⟩; have HA2 := Lib.hid hA2; have HB2 := Lib.hid hb2; have HE2 := Lib.hid hE2; clear hA2 hb2 hE2 q0 q1 q2 z0 z1 z2 lq)
                | (go_at_call 32; refine halt_here ?_))
              have G2 := Lib.hid ((ext_block HE2.out (by simp)).trans (heap_alloc_new wi (.cells #[.int .i64 0] 3)))
              have hE02 : Ext wi w2 := ext_trans (ext_alloc (ext_refl _) _) HE2.out
              have HE02 := Lib.hid hE02
              have HS2 := Lib.hid (envS_ext HQI.out hE02)
              clear hE02
              have hlenM : (scanL q L).length ≤ 1000 := by
                have := scan_length (ordP q) q L []
                simp at this
                unfold scanL; omega
              have HLM := Lib.hid hlenM
              clear hlenM
              have hkb := block_lt (boxes_head HQI.out.boxes)
              have hkb2 := HL.out.1
              refine go_on ?_
              refine (sto_scan1 (L := L) (.func (.func 18) #[] #[.pointer (some ⟨w.heap.size, 0, none⟩), .pointer (some ⟨wi.heap.size, 0, none⟩)]) (.inl ⟨18, _, rfl, enters_of Tryd.func18 (by kernel_rfl) rfl⟩)
                (fun b => b = wi.heap.size) (AgJ wi.heap.size k w2) (fun _ _ => False) q b1 b2 b3 b4 (laid_ext HL.out HS2.out.ext) HS2.out.st (by omega) HA2.out
                (fun b hb h => by subst h; exact st_off HS2.out.st G2.out (by decide) (by decide) hb) (fun b hb h => ?_) (by omega) (by omega) agJ_ext (fun pre x W1 hJ hp => ag_told (by have := HLM.out; omega) (boxes_head HS2.out.boxes) (by omega) pre x W1 hJ hp) ⟨G2.out, upd_refl⟩).mono ?_
              · have := HB2.out b hb
                rw [World.size_alloc] at this
                omega
              rintro e W3 ⟨⟨v3, rfl⟩, hend⟩
              have hJ3 : AgJ wi.heap.size k w2 (scanL q L) W3 := by
                rcases hend with h | ⟨_, _, h⟩
                · exact h
                · exact h.elim
              have HJ3 := Lib.hid hJ3
              clear hend hJ3
              have HE3 : Hid (Ext wi W3) := Lib.hid (ext_of_upd (upd_trans (upd_of_ext HE02.out) HJ3.out.2 (fun i hi e => by omega)))
              have c3 : W3.cell? ⟨wi.heap.size, 0, none⟩ = some (.int .i64 tv) := by
                rw [block_cell HJ3.out.1, HCNT.out, HTV.out]
                split <;> rfl
              have l3 := block_lt HJ3.out.1
              have htt : (tv != tv) = false := by simp
              clear hkb hkb2
              go_wp2
              go_roundw
              case rel => exact ⟨mm + 1, by omega, by go_num, ext_trans HEm.out (ext_trans HEi.out HE3.out)⟩
              case measure => simp [intOf]; omega
        · obtain rfl : mm = 8 := by omega
          have k0 : wm.cell? ⟨w.heap.size, 0, none⟩ = some (.int .i64 k.a) := block_cell (boxes_head HN.out.boxes) 0
          have k1 : wm.cell? ⟨w.heap.size, 1, none⟩ = some (.int .i64 k.b) := block_cell (boxes_head HN.out.boxes) 1
          have k2 : wm.cell? ⟨w.heap.size, 2, none⟩ = some (.int .i64 k.c) := block_cell (boxes_head HN.out.boxes) 2
          have lk := block_lt (boxes_head HN.out.boxes)
          by_cases hin : k ∈ L
          · have htv1 : tv = 1 := by rw [HTV.out, if_pos hin]
            have hdk : decide (k ∈ L) = true := by simpa using hin
            have HDK := Lib.hid hdk
            rw [htv1]
            clear hin hdk htv1
            go_wp2_with (go_at_call 19; refine (sto_has k (laid_ext HL.out HN.out.ext) HN.out.st (by omega)).mono ?_; rintro e w9 ⟨rfl, hE9⟩; rw [HDK.out]; have HE9 := Lib.hid hE9; clear hE9)
            go_ret
            exact ⟨rfl, ext_trans HN.out.ext HE9.out⟩
          · have htv1 : tv = 0 := by rw [HTV.out, if_neg hin]
            have hdk : decide (k ∈ L) = false := by simpa using hin
            have HDK := Lib.hid hdk
            rw [htv1]
            clear hin hdk htv1
            go_wp2_with (go_at_call 19; refine (sto_has k (laid_ext HL.out HN.out.ext) HN.out.st (by omega)).mono ?_; rintro e w9 ⟨rfl, hE9⟩; rw [HDK.out]; have HE9 := Lib.hid hE9; clear hE9)
            go_ret
            exact ⟨rfl, ext_trans HN.out.ext HE9.out⟩
end Go.Proofs.YtfaegjlolhpofaaDoor
