/- StoreSums, walked. -/
import Derived.Test.YtfaegjlolhpofaaDoorUe
import Derived.Test.YtfaegjlolhpofaaDoorUf
import Derived.Test.YtfaegjlolhpofaaDoorRk
import Derived.Test.YtfaegjlolhpofaaDoorPs
namespace Go.Proofs.YtfaegjlolhpofaaDoor
open Go.RowKit Go.Sort
set_option maxHeartbeats 800000

theorem env_setbox {w : World} {s bm : Nat} {room : Int} {Ls Lm : List Key} {lv : Value} {F : Nat → Prop} {b : Nat} {cs : Array Value} {t : TypeId} {W : World} (h : Env w s bm room Ls Lm lv F [(b, cs, t)] W) (hb : w.heap.size ≤ b) (hlv : ∀ g, lv.ownBlock = some g → g ≠ b) (i : Nat) (u : Value) :
    Env w s bm room Ls Lm lv F [(b, cs.setIfInBounds i u, t)] (W.setCell ⟨b, i, none⟩ u) := by
  have hu : Upd (fun k => k = b) W (W.setCell ⟨b, i, none⟩ u) := upd_mono (upd_setCell _) (fun _ _ h => h)
  have hz := h.boxes _ (List.mem_cons_self ..)
  refine ⟨st_upd h.st hu (fun k hk e => by subst e; exact st_off h.st hz.1 hz.2.1 hz.2.2.1 hk), row_upd h.row hu (fun k hk e => hlv k hk e), (hu.block bm (block_lt h.m) (fun e => ?_)).trans h.m, boxes_cons boxes_nil (heap_setCell_at hz.1) hz.2.1 hz.2.2.1 hz.2.2.2, ext_set h.ext hb _, h.low, h.lowm⟩
  have h1 := hz.1
  rw [← e, h.m] at h1
  simp only [Option.some.injEq, Obj.cells.injEq] at h1
  exact hz.2.2.2 h1.2.1.symm
theorem info3 : (Tryd.prog.info? 3).map (fun i => (i.zero, i.size, i.bytes)) = some (some (.int .i64 0), 1, 8) := by kernel_rfl
theorem owns_cell {w : World} {base g n c : Nat} {vs : List Int} {v : Value} (h : w.ownsRow base 3 1 (.slice (some ⟨g, 0, none⟩) n c) vs.length (vs.map (Value.int .i64))) {r : Nat} (hv : v = .int .i64 (vs.getD r 0)) (hr : r < vs.length) : w.cell? ⟨g, r, none⟩ = some v := by
  rcases h.2 with ⟨h1, _⟩ | ⟨g', cap, cur, h1, _, h2, _, _, _, h6⟩
  · cases h1
  · simp only [Value.slice.injEq, Option.some.injEq, Addr.mk.injEq, and_true] at h1
    obtain ⟨rfl, -, -⟩ := h1
    rw [block_cell h2]
    have h7 : (cur.toList.take (vs.length * 1))[r]? = (vs.map (Value.int .i64))[r]? := by rw [h6]
    rw [List.getElem?_take, if_pos (by omega)] at h7
    rw [← Array.getElem?_toList, h7, hv]
    simp [List.getD, hr]
theorem owns_some {w : World} {base n c : Nat} {sA : Option Addr} {vs : List Int} (h : w.ownsRow base 3 1 (.slice sA n c) vs.length (vs.map (Value.int .i64))) (hne : vs ≠ []) : ∃ g, sA = some ⟨g, 0, none⟩ ∧ g < w.heap.size := by
  rcases h.2 with ⟨_, h2⟩ | ⟨g', cap, cur, h1, _, h2, _⟩
  · exact absurd (List.eq_nil_of_length_eq_zero h2) hne
  · simp only [Value.slice.injEq] at h1
    exact ⟨g', h1.1, block_lt h2⟩
theorem all_take {vs : List Int} {r : Nat} (hr : r < vs.length) (yv : Int) : (vs.take (r + 1)).all (fun n => n != yv) = ((vs.take r).all (fun n => n != yv) && (vs.getD r 0 != yv)) := by
  rw [List.take_add_one, List.getD_eq_getElem?_getD, List.getElem?_eq_getElem hr, List.all_append]
  simp
theorem grown_new {W0 w6 wx w7 : World} {v : Value} {n : Nat} {xs : List Value} (hg : wx.grownBy w7 v.ownBlock) (ho : w6.ownsRow W0.heap.size 3 1 v n xs) (h6 : Ext W0 w6) (hx : Ext w6 wx) : Ext W0 w7 :=
  Below.grown (ext_trans h6 hx) hg (ext_size (ext_trans h6 hx)) (fun g e => (World.ownsRow.lt ho g e).1)
theorem owns_not22 {w6 : World} {base n b : Nat} {v : Value} {xs : List Value} {cs : Array Value} (ho : w6.ownsRow base 3 1 v n xs) (hb : w6.heap[b]? = some (.cells cs 22 (0, 0))) : v.ownBlock ≠ some b := fun e => by
  rcases ho.2 with ⟨h1, _⟩ | ⟨g, cap, cur, h1, _, h2, _⟩
  · rw [h1] at e; cases e
  · rw [h1] at e; cases e
    rw [hb] at h2; simp at h2
theorem owns_form {w : World} {base n : Nat} {v : Value} {xs : List Value} (h : w.ownsRow base 3 1 v n xs) : ∃ A c, v = .slice A n c := by
  rcases h.2 with ⟨h1, h2⟩ | ⟨g', cap, cur, h1, _⟩
  · exact ⟨none, 0, by rw [h2]; exact h1⟩
  · exact ⟨_, _, h1⟩
theorem one_one (z : Int) : ∀ u ∈ [Value.int .i64 z], u.oneCell' = true := fun u hu => by
  rw [List.mem_singleton.1 hu]; rfl
theorem one_news (w : World) (z : Int) : ∀ j u, [Value.int .i64 z][j]? = some u → (w.alloc (.cells #[.int .i64 z] 3)).cell? ((⟨w.heap.size, 0, none⟩ : Addr).add j) = some u := World.news_of_block (cs := #[.int .i64 z]) (heap_alloc_new w (.cells #[.int .i64 z] 3))
theorem sumS_le (i : Nat) (p : Key) (L : List Key) (vs : List Int) : sumS i p L vs ≤ L.length := by
  unfold sumS; exact List.length_filter_le _ _

set_option maxRecDepth 100000 in
set_option maxHeartbeats 4000000 in
theorem sums_row (A0 : Option Addr) (cap : Nat) (acts : List ActV) (k : Key) (pl : Int) (w : World) (hL : Laid w) (hA : acts ≠ [] → ∃ b off, A0 = some ⟨b, off, none⟩ ∧ ActsIn w b off acts) (hn : acts.length ≤ 40) (hp1 : 0 ≤ pl) (hp2 : pl ≤ 255) :
    Calls Tryd.prog 5 #[.slice A0 acts.length cap, K3 k.a k.b k.c, .int .u8 pl] w fun e w' => e = .returned (.bool true) ∧ Ext w w' := by
  have HL := Lib.hid hL
  have HA := Lib.hid hA
  clear hL hA
  have hn' : ¬ 40 < acts.length := by omega
  have hn2 : (acts.length : Int) ≤ 40 := by omega
  go_enter Tryd.func5, Tryd.ntmps5
  go_wp2_with (first
    | (go_at_call 9; refine (awake_any _ (laid_ext HL.out (ext_alloc (ext_refl _) _))).mono ?_; rintro e w1 ⟨rfl, hE⟩; have HE := Lib.hid (ext_trans (ext_alloc (ext_refl w) (.cells #[.int .i64 k.a, .int .i64 k.b, .int .i64 k.c] 22)) hE); have HK1 := Lib.hid ((ext_block hE (by simp)).trans (heap_alloc_new w (.cells #[.int .i64 k.a, .int .i64 k.b, .int .i64 k.c] 22))); clear hE)
    | (go_at_call 15; refine (new_ok 50 (by decide) (by decide) _).mono ?_; rintro e w2 ⟨rfl, rfl⟩))
  clear hn'
  have HW1 := Lib.hid (show 1 < w1.heap.size from Nat.lt_of_lt_of_le HL.out.1 (ext_size HE.out))
  refine wp_gen (fun W hW => ?_)
  have HI : Hid (Env w w1.heap.size (w1.heap.size + 1) 50 [] [] (.slice none 0 0) (fpS w1.heap.size nilV) [(w.heap.size, key3 k, 22)] W) := Lib.hid (by
    rw [hW]
    have hm := heap_alloc_new (w1.alloc (.cells #[.slice none 0 0, .slice none 0 0, .slice none 0 0, .int .i64 50] 65)) (.cells #[.int .i64 50, .slice none 0 0] 47)
    rw [World.size_alloc] at hm
    have hE2 : Ext w1 ((w1.alloc (.cells #[.slice none 0 0, .slice none 0 0, .slice none 0 0, .int .i64 50] 65)).alloc (.cells #[.int .i64 50, .slice none 0 0] 47)) := ext_alloc (ext_alloc (ext_refl _) _) _
    exact ⟨st_ext (st_new w1 50 HW1.out) (ext_alloc (ext_refl _) _), World.ownsRow_nil _ _ _ _, hm, boxes_cons boxes_nil ((ext_block hE2 (block_lt HK1.out)).trans HK1.out) (by decide) (by decide) (by decide), ext_trans HE.out hE2, low_new (ext_size HE.out), Nat.le_succ_of_le (ext_size HE.out)⟩)
  clear hW
  go_loopw [36] (fun x wr => ∃ (j : Nat) (L : List Key) (A : Option Addr) (c : Nat) (F : Nat → Prop), j ≤ acts.length ∧ x = .int .i64 j ∧ L.length ≤ j ∧ (∀ g, (Value.slice A L.length c).ownBlock = some g → w1.heap.size ≤ g) ∧ Env w w1.heap.size (w1.heap.size + 1) 50 L L (.slice A L.length c) F [(w.heap.size, key3 k, 22)] wr) (fun x _ => acts.length - (intOf x).toNat)
  case atStart => exact ⟨0, [], none, 0, _, by omega, rfl, by simp, (fun g h => by cases h), HI.out⟩
  case round =>
    obtain ⟨j, L, A, c, F, hj, rfl, hlen, hlow, hI⟩ := hrel
    have HLOW := Lib.hid hlow
    clear hlow
    have HJ := Lib.hid hI
    clear hI
    by_cases hlt : j < acts.length
    · have hji : (j : Int) < (acts.length : Int) := by omega
      have hj0 : (0 : Int) ≤ (j : Int) := by omega
      obtain ⟨x, hx⟩ : ∃ x, acts[j]? = some x := ⟨_, List.getElem?_eq_getElem hlt⟩
      obtain ⟨b, off, hA0, hAI⟩ := HA.out (fun e => by rw [e] at hlt; simp at hlt)
      subst hA0
      obtain ⟨⟨a0, a1, a2, a3, a4⟩, x1, x2, x3, x4⟩ := hAI.2 j x hx
      have hbw := hAI.1
      replace a0 := (ext_cell HJ.out.ext _ _ hbw).trans a0
      replace a1 := (ext_cell HJ.out.ext _ _ hbw).trans a1
      replace a2 := (ext_cell HJ.out.ext _ _ hbw).trans a2
      replace a3 := (ext_cell HJ.out.ext _ _ hbw).trans a3
      replace a4 := (ext_cell HJ.out.ext _ _ hbw).trans a4
      have HX := Lib.hid hx
      have lb := ext_lt HJ.out.ext hbw
      clear hx hbw hAI
      go_wp2_with (first
        | (go_at_call 16; have hM := env_push (env_ext HJ.out (ext_alloc (ext_refl wr) (.cells (actCells x) 39))) (heap_alloc_new wr (.cells (actCells x) 39)) (by decide) (by decide) (by decide); refine (sto_add x.key (laid_ext HL.out hM.ext) hM.st (by omega)).mono ?_; rintro e w3 ⟨rfl, hW3⟩; obtain ⟨F3, hM3⟩ := env_wrote hM hW3; have HM3 := Lib.hid hM3; clear hM hW3 hM3; have n0 : w3.cell? ⟨w1.heap.size + 1, 0, none⟩ = some (.int .i64 50) := block_cell HM3.out.m 0; have n1 : w3.cell? ⟨w1.heap.size + 1, 1, none⟩ = some (.slice A L.length c) := block_cell HM3.out.m 1; have y2 : w3.cell? ⟨wr.heap.size, 2, none⟩ = some (.int .i64 x.key.a) := block_cell (boxes_head HM3.out.boxes) 2; have y3 : w3.cell? ⟨wr.heap.size, 3, none⟩ = some (.int .i64 x.key.b) := block_cell (boxes_head HM3.out.boxes) 3; have y4 : w3.cell? ⟨wr.heap.size, 4, none⟩ = some (.int .i64 x.key.c) := block_cell (boxes_head HM3.out.boxes) 4; have lm3 := block_lt HM3.out.m; have lx3 := block_lt (boxes_head HM3.out.boxes))
        | (go_at_call 20; refine (refadd_anyF 50 _ L x.key _ HM3.out.row (by omega)).mono ?_; rintro e w4 ⟨lv4, rfl, ⟨hr4, hf4⟩, hE4⟩; obtain ⟨A4, c4, rfl⟩ := rowL_form hr4; have HF4 := Lib.hid hf4; clear hf4; have HR4 := Lib.hid hr4; have hM4 := env_ext HM3.out hE4; have HM4 := Lib.hid hM4; clear hr4 hE4 hM4; have z0 := block_frozen HM4.out.m 0; have z1 := block_frozen HM4.out.m 1; have n0 : w4.cell? ⟨w1.heap.size + 1, 0, none⟩ = some (.int .i64 50) := block_cell HM4.out.m 0; have n1 : w4.cell? ⟨w1.heap.size + 1, 1, none⟩ = some (.slice A L.length c) := block_cell HM4.out.m 1; have lm4 := block_lt HM4.out.m))
      have hM5 := env_pop (env_put HM4.out HR4.out)
      have HM5 := Lib.hid hM5
      clear hM5
      go_roundw
      case rel => exact ⟨j + 1, _, A4, c4, F3, by omega, by go_num, Nat.le_trans (addL_length 50 L x.key) (by omega), (fun g hg => (HF4.out g hg).elim (HLOW.out g) (fun h => by omega)), HM5.out⟩
      case measure => simp [intOf]; omega
    · obtain rfl : j = acts.length := by omega
      obtain ⟨i, hi3, hpi⟩ : ∃ i : Nat, i < 3 ∧ pl % 3 = (i : Int) := ⟨(pl % 3).toNat, by omega, by omega⟩
      have hi0 : (0 : Int) ≤ (i : Int) := by omega
      have hi3' : (i : Int) < 3 := by omega
      have kk : wr.cell? ⟨w.heap.size, i, none⟩ = some (.int .i64 (k.f i)) := (block_cell (boxes_head HJ.out.boxes) i).trans (key3_at i hi3 k)
      have kz := block_frozen (boxes_head HJ.out.boxes) i
      have lk := block_lt (boxes_head HJ.out.boxes)
      have lm := block_lt HJ.out.m
      have hs1 := ext_size HE.out
      have hne1 : w1.heap.size + 1 ≠ w.heap.size := by omega
      have hne2 : w.heap.size ≠ w1.heap.size + 1 := by omega
      have n1 : wr.cell? ⟨w1.heap.size + 1, 1, none⟩ = some (.slice A L.length c) := block_cell HJ.out.m 1
      go_wp2
      refine wp_gen (fun W0 hW0 => ?_)
      have hlvb : ∀ g, (Value.slice A L.length c).ownBlock = some g → g ≠ w.heap.size := fun g hg => by
        have := HLOW.out g hg
        have := block_lt HK1.out
        omega
      have HZ : Hid (Env w w1.heap.size (w1.heap.size + 1) 50 L L (.slice A L.length c) F [(w.heap.size, key3 (setF i k (-1)), 22)] W0) := Lib.hid (by
        rw [hW0]
        have := env_setbox HJ.out (Nat.le_refl _) hlvb i (.int .i64 (-1))
        rw [key3_set i hi3] at this
        exact this)
      clear hW0 hlvb kk kz lk lm n1 hpi
      go_loopw [60, 13, 14] (fun x y z wq => ∃ (j : Nat) (sA : Option Addr) (sc : Nat) (vs : List Int) (sm : Nat), j ≤ L.length ∧ x = .int .i64 j ∧ y = .int .i64 sm ∧ sm = sumS i k L vs ∧ vs = seenOf i (L.take j) ∧ vs.Nodup ∧ z = .slice sA vs.length sc ∧ wq.ownsRow W0.heap.size 3 1 (.slice sA vs.length sc) vs.length (vs.map (Value.int .i64)) ∧ Ext W0 wq) (fun x _ _ _ => L.length - (intOf x).toNat)
      case atStart => exact ⟨0, none, 0, [], 0, by omega, rfl, rfl, (sumS_nil i k L).symm, rfl, List.nodup_nil, rfl, World.ownsRow_nil _ _ _ _, ext_refl _⟩
      case round =>
        rename World => wq
        obtain ⟨j, sA, sc, vs, sm, hj, rfl, rfl, hsm, hvs, hnd, rfl, hown, hEq⟩ := hrel
        have HSM := Lib.hid hsm
        have HVS := Lib.hid hvs
        have HND := Lib.hid hnd
        have HOWN := Lib.hid hown
        have HEQ := Lib.hid hEq
        have HN := Lib.hid (env_ext HZ.out hEq)
        clear hsm hvs hnd hown hEq
        have hvl : vs.length ≤ j := by
          rw [HVS.out]
          have := seen_len i (L.take j) []
          simp at this
          unfold seenOf; omega
        have hsl : sm ≤ L.length := by rw [HSM.out]; exact sumS_le _ _ _ _
        by_cases hlt : j < L.length
        · have hji : (j : Int) < (L.length : Int) := by omega
          have hj0 : (0 : Int) ≤ (j : Int) := by omega
          obtain ⟨g, hgA⟩ : ∃ g, A = some ⟨g, 0, none⟩ := by
            rcases rowL_cases HN.out.row with ⟨_, h2⟩ | ⟨g, _, _, h, _⟩
            · rw [h2] at hlt; simp at hlt
            · simp only [Value.slice.injEq] at h; exact ⟨g, h.1⟩
          subst hgA
          obtain ⟨y, hy⟩ : ∃ y, kat L j = y := ⟨_, rfl⟩
          obtain ⟨k0, k1, k2⟩ := rowL_keysIn HN.out.row j hlt
          rw [hy] at k0 k1 k2
          have HY := Lib.hid hy
          have lg := rowL_block HN.out.row
          clear hy
          go_wp2
          refine wp_gen (fun W5 hW5 => ?_)
          have HB5 : Hid (W5.heap[wq.heap.size]? = some (.cells (key3 y) 22 (0, 0))) := Lib.hid (by rw [hW5]; exact heap_alloc_new wq _)
          have HE5 : Hid (Ext wq W5) := Lib.hid (by rw [hW5]; exact ext_alloc (ext_refl _) _)
          clear hW5 k0 k1 k2 lg
          go_loopw [66, 17] (fun x z w6 => ∃ r : Nat, r ≤ vs.length ∧ x = .int .i64 r ∧ z = .bool ((vs.take r).all (fun n => n != y.f i)) ∧ Ext W5 w6) (fun x _ _ => vs.length - (intOf x).toNat)
          case atStart => exact ⟨0, by omega, rfl, rfl, ext_refl _⟩
          case round =>
            rename World => w6
            obtain ⟨r, hr, rfl, rfl, hE6⟩ := hrel
            have HE6 := Lib.hid hE6
            clear hE6
            have hlb5 := block_lt HB5.out
            have lb6 : wq.heap.size < w6.heap.size := ext_lt HE6.out hlb5
            have yk : w6.cell? ⟨wq.heap.size, i, none⟩ = some (.int .i64 (y.f i)) := (ext_cell HE6.out _ _ hlb5).trans ((block_cell HB5.out i).trans (key3_at i hi3 y))
            have HOWN6 := Lib.hid (row_ext HOWN.out (ext_trans HE5.out HE6.out))
            by_cases hrl : r < vs.length
            · obtain ⟨g3, hg3, lg3⟩ := owns_some HOWN6.out (fun e => by rw [e] at hrl; simp at hrl)
              subst hg3
              have hri : (r : Int) < (vs.length : Int) := by omega
              have hr0 : (0 : Int) ≤ (r : Int) := by omega
              obtain ⟨vr, hvr⟩ : ∃ vr, vs.getD r 0 = vr := ⟨_, rfl⟩
              have sk : w6.cell? ⟨g3, r, none⟩ = some (.int .i64 vr) := owns_cell HOWN6.out (by rw [hvr]) hrl
              have HVR := Lib.hid hvr
              have HAT := Lib.hid (all_take hrl (y.f i))
              clear hvr
              have hfr : (vs.take r).all (fun n => n != y.f i) = true ∨ (vs.take r).all (fun n => n != y.f i) = false := by cases (vs.take r).all (fun n => n != y.f i) <;> simp
              rcases hfr with hfr | hfr
              · rw [hfr]
                have HFR := Lib.hid hfr
                clear hfr
                go_wp2
                go_roundw
                case rel => exact ⟨r + 1, by omega, by go_num, by rw [HAT.out, HFR.out, HVR.out, Bool.true_and], HE6.out⟩
                case measure => simp [intOf]; omega
              · rw [hfr]
                have HFR := Lib.hid hfr
                clear hfr
                go_wp2
                go_roundw
                case rel => exact ⟨r + 1, by omega, by go_num, by rw [HAT.out, HFR.out, Bool.false_and], HE6.out⟩
                case measure => simp [intOf]; omega
            · obtain rfl : r = vs.length := by omega
              rw [List.take_length]
              by_cases hm : y.f i ∈ vs
              · have hf : vs.all (fun n => n != y.f i) = false := by
                  rw [List.all_eq_false]; exact ⟨_, hm, by simp⟩
                rw [hf]
                have HM := Lib.hid hm
                clear hm hf
                go_wp2
                go_roundw
                case rel => exact ⟨j + 1, sA, sc, vs, sm, by omega, by go_num, rfl, HSM.out, by rw [seen_take i hlt, ← HVS.out, HY.out]; unfold addSeen; rw [if_pos HM.out], HND.out, rfl, HOWN6.out, ext_trans HEQ.out (ext_trans HE5.out HE6.out)⟩
                case measure => simp [intOf]; omega
              · have hf : vs.all (fun n => n != y.f i) = true := by
                  rw [List.all_eq_true]; exact fun n hn => by simp; exact fun e => hm (e ▸ hn)
                rw [hf]
                have HM := Lib.hid hm
                clear hm hf
                obtain ⟨i0, hi0', hz0, hz1, hz2⟩ := info_parts info3
                have HI0 := Lib.hid hi0'
                have HZ0 := Lib.hid hz0
                have HZ1 := Lib.hid hz1
                have HZ2 := Lib.hid hz2
                clear hi0' hz0 hz1 hz2
                have hY6 := (ext_block HE6.out hlb5).trans HB5.out
                have hW6 : W0.heap.size ≤ w6.heap.size := ext_size (ext_trans HEQ.out (ext_trans HE5.out HE6.out))
                go_wp2_with (at_builtin; refine halt_here ?_)
                refine go_on ?_
                have c3 : vs.length + 1 ≤ maxLen := by unfold maxLen; omega
                have c4 : (vs.length + 1) * 8 ≤ 140737488355328 := by omega
                have c5 : W0.heap.size ≤ (w6.alloc (.cells #[.int .i64 (y.f i)] 3)).heap.size := by rw [World.size_alloc]; omega
                have c6 : wq.heap.size < (w6.alloc (.cells #[.int .i64 (y.f i)] 3)).heap.size := by rw [World.size_alloc]; omega
                refine wpList_append_own _ rfl (.tmp 81) (.tmp 85) 50 rfl W0.heap.size 3 i0 (.int .i64 0) 1 8 Tryd.underlying50 HI0.out HZ0.out HZ1.out HZ2.out rfl (by decide) (.slice sA vs.length sc) vs.length (vs.map (Value.int .i64)) rfl (row_ext HOWN6.out (ext_alloc (ext_refl _) _)) ⟨w6.heap.size, 0, none⟩ 1 1 [.int .i64 (y.f i)] rfl rfl (one_news w6 (y.f i)) (one_one (y.f i)) c3 c4 c5 ?_
                intro v7 w7 hown7 hgr7 _
                have HOWN7 := Lib.hid hown7
                have HE07 := Lib.hid (grown_new hgr7 HOWN6.out (ext_trans HEQ.out (ext_trans HE5.out HE6.out)) (ext_alloc (ext_refl w6) (.cells #[.int .i64 (y.f i)] 3)))
                have HYB7 := Lib.hid ((hgr7.block wq.heap.size c6 (owns_not22 HOWN6.out hY6).symm).trans ((ext_block (ext_alloc (ext_refl w6) (.cells #[.int .i64 (y.f i)] 3)) lb6).trans hY6))
                have HN7 := Lib.hid (env_ext HZ.out HE07.out)
                clear hown7 hgr7
                have p0 : w7.cell? ⟨w.heap.size, 0, none⟩ = some (.int .i64 (setF i k (-1)).a) := block_cell (boxes_head HN7.out.boxes) 0
                have p1 : w7.cell? ⟨w.heap.size, 1, none⟩ = some (.int .i64 (setF i k (-1)).b) := block_cell (boxes_head HN7.out.boxes) 1
                have p2 : w7.cell? ⟨w.heap.size, 2, none⟩ = some (.int .i64 (setF i k (-1)).c) := block_cell (boxes_head HN7.out.boxes) 2
                have y7 : w7.cell? ⟨wq.heap.size, i, none⟩ = some (.int .i64 (y.f i)) := (block_cell HYB7.out i).trans (key3_at i hi3 y)
                have lp7 := block_lt (boxes_head HN7.out.boxes)
                have ly7 := block_lt HYB7.out
                obtain ⟨A7, c7, hv7⟩ := owns_form HOWN7.out
                subst hv7
                go_upto_region 28 with (fail)
                refine wp_gen (fun W9 hW9 => ?_)
                have HB9 : Hid (W9.heap[w7.heap.size]? = some (.cells (key3 (setF i k (y.f i))) 22 (0, 0))) := Lib.hid (by
                  rw [hW9, ← setF_set i k (-1) (y.f i), ← key3_set i hi3]
                  refine (heap_alloc_new _ _).trans ?_
                  simp [key3])
                have HE79 : Hid (Ext w7 W9) := Lib.hid (by rw [hW9]; exact ext_alloc (ext_refl _) _)
                have HN9 := Lib.hid (env_ext HZ.out (ext_trans HE07.out HE79.out))
                clear hW9 p0 p1 p2 y7 lp7 ly7 c3 c4 c5 c6
                have q0 : W9.cell? ⟨w7.heap.size, 0, none⟩ = some (.int .i64 (setF i k (y.f i)).a) := block_cell HB9.out 0
                have q1 : W9.cell? ⟨w7.heap.size, 1, none⟩ = some (.int .i64 (setF i k (y.f i)).b) := block_cell HB9.out 1
                have q2 : W9.cell? ⟨w7.heap.size, 2, none⟩ = some (.int .i64 (setF i k (y.f i)).c) := block_cell HB9.out 2
                obtain ⟨cn, hcn⟩ : ∃ cn, (scanL (setF i k (y.f i)) L).length = cn := ⟨_, rfl⟩
                have hcl : cn ≤ L.length := by
                  rw [← hcn]
                  have := scan_length (ordP (setF i k (y.f i))) (setF i k (y.f i)) L []
                  simp at this
                  unfold scanL; omega
                have HCN := Lib.hid hcn
                clear hcn
                have hyv : 0 ≤ y.f i := by
                  have hny := HZ.out.st.nn y (by rw [← HY.out]; exact kat_mem hlt)
                  obtain ⟨h0, h1, h2⟩ := hny
                  obtain rfl | rfl | rfl : i = 0 ∨ i = 1 ∨ i = 2 := by omega
                  · exact h0
                  · exact h1
                  · exact h2
                have HYV := Lib.hid hyv
                clear hyv
                go_wp2_with (go_at_call 21; refine (sto_count (setF i k (y.f i)) (laid_ext HL.out HN9.out.ext) HN9.out.st (by omega)).mono ?_; rintro e w10 ⟨rfl, hE10⟩; rw [HCN.out]; have HE10 := Lib.hid hE10; clear hE10)
                go_roundw
                case rel =>
                  refine ⟨j + 1, A7, c7, vs ++ [y.f i], sm + cn, by omega, by go_num, by go_num, ?_, ?_, ?_, by rw [List.length_append]; rfl, ?_, ext_trans HE07.out (ext_trans HE79.out HE10.out)⟩
                  · rw [sumS_snoc i hi3 k L HZ.out.st.nodup vs (y.f i) HYV.out HM.out, ← HSM.out, HCN.out]
                  · rw [seen_take i hlt, ← HVS.out, HY.out]; unfold addSeen; rw [if_neg HM.out]
                  · exact List.nodup_append.2 ⟨HND.out, by simp, fun a ha b hb e => HM.out (by rw [← List.mem_singleton.1 hb, ← e]; exact ha)⟩
                  · rw [List.length_append, List.map_append]
                    exact row_ext HOWN7.out (ext_trans HE79.out HE10.out)
                case measure => simp [intOf]; omega
        · obtain rfl : j = L.length := by omega
          obtain ⟨N, hN⟩ : ∃ N, (scanL (setF i k (-1)) L).length = N := ⟨_, rfl⟩
          have hsN : sm = N := by
            rw [HSM.out, sumS_all i k L HZ.out.st.nodup vs (fun y hy => ?_), hN]
            rw [HVS.out, List.take_length]
            exact (seen_mem i L [] _).2 (.inr ⟨y, hy, rfl⟩)
          subst hsN
          have HNN := Lib.hid hN
          clear hN
          have p0 : wq.cell? ⟨w.heap.size, 0, none⟩ = some (.int .i64 (setF i k (-1)).a) := block_cell (boxes_head HN.out.boxes) 0
          have p1 : wq.cell? ⟨w.heap.size, 1, none⟩ = some (.int .i64 (setF i k (-1)).b) := block_cell (boxes_head HN.out.boxes) 1
          have p2 : wq.cell? ⟨w.heap.size, 2, none⟩ = some (.int .i64 (setF i k (-1)).c) := block_cell (boxes_head HN.out.boxes) 2
          have lp := block_lt (boxes_head HN.out.boxes)
          go_wp2_with (first
            | (go_at_call 21; refine (sto_count (setF i k (-1)) (laid_ext HL.out HN.out.ext) HN.out.st (by omega)).mono ?_; rintro e w8 ⟨rfl, hE8⟩; rw [HNN.out]; have HN8 := Lib.hid (env_ext HN.out hE8); clear hE8; have n0 : w8.cell? ⟨w1.heap.size + 1, 0, none⟩ = some (.int .i64 50) := block_cell HN8.out.m 0; have n1 : w8.cell? ⟨w1.heap.size + 1, 1, none⟩ = some (.slice A L.length c) := block_cell HN8.out.m 1; have p0 : w8.cell? ⟨w.heap.size, 0, none⟩ = some (.int .i64 (setF i k (-1)).a) := block_cell (boxes_head HN8.out.boxes) 0; have p1 : w8.cell? ⟨w.heap.size, 1, none⟩ = some (.int .i64 (setF i k (-1)).b) := block_cell (boxes_head HN8.out.boxes) 1; have p2 : w8.cell? ⟨w.heap.size, 2, none⟩ = some (.int .i64 (setF i k (-1)).c) := block_cell (boxes_head HN8.out.boxes) 2; have lp8 := block_lt (boxes_head HN8.out.boxes); have lm8 := block_lt HN8.out.m)
            | (go_at_call 22; refine (refscan_any 50 _ L (setF i k (-1)) _ HN8.out.row (by omega)).mono ?_; rintro e w9 ⟨lv9, rfl, hr9, hE9⟩; obtain ⟨A9, c9, rfl⟩ := rowL_form hr9; rw [HNN.out]; have HE9 := Lib.hid (ext_trans HN8.out.ext hE9); clear hr9 hE9))
          go_ret
          exact ⟨rfl, HE9.out⟩
end Go.Proofs.YtfaegjlolhpofaaDoor
