/- StorePlays, walked: the acts as they lie in memory. -/
import Derived.Test.YtfaegjlolhpofaaDoorUe
namespace Go.Proofs.YtfaegjlolhpofaaDoor
open Go.RowKit Go.Sort
set_option maxHeartbeats 800000

/-- between two acts -/
def PlayInv (w : World) (s bm : Nat) (room : Int) (j : Nat) (L : List Key) (lv : Value) (F : Nat → Prop) (wr : World) : Prop :=
  L.length ≤ j ∧ St wr F s L room ∧ rowL wr lv L ∧ wr.heap[bm]? = some (.cells #[.int .i64 room, lv] 47 (0, 0)) ∧ Ext w wr ∧ (∀ b, F b → w.heap.size ≤ b)

/-- within an act: the store holds Ls, the document's list is Lm -/
structure Mid (w : World) (s bm bx : Nat) (room : Int) (x : ActV) (Ls Lm : List Key) (lv : Value) (F : Nat → Prop) (W : World) : Prop where
  st : St W F s Ls room
  row : rowL W lv Lm
  m : W.heap[bm]? = some (.cells #[.int .i64 room, lv] 47 (0, 0))
  box : W.heap[bx]? = some (.cells #[.int .u8 x.kind, .int .u8 x.num, .int .i64 x.key.a, .int .i64 x.key.b, .int .i64 x.key.c] 39 (0, 0))
  ext : Ext w W
  low : ∀ b, F b → w.heap.size ≤ b
  lowm : w.heap.size ≤ bm
theorem mid_ext {w : World} {s bm bx : Nat} {room : Int} {x : ActV} {Ls Lm : List Key} {lv : Value} {F : Nat → Prop} {W W' : World} (h : Mid w s bm bx room x Ls Lm lv F W) (hE : Ext W W') : Mid w s bm bx room x Ls Lm lv F W' :=
  ⟨st_ext h.st hE, row_ext h.row hE, (ext_block hE (block_lt h.m)).trans h.m, (ext_block hE (block_lt h.box)).trans h.box, ext_trans h.ext hE, h.low, h.lowm⟩
theorem mid_put {w : World} {s bm bx : Nat} {room : Int} {x : ActV} {Ls Lm Lm' : List Key} {lv lv' : Value} {F : Nat → Prop} {W : World} (h : Mid w s bm bx room x Ls Lm lv F W) (hr : rowL W lv' Lm') :
    Mid w s bm bx room x Ls Lm' lv' F ((W.setCell ⟨bm, 0, none⟩ (.int .i64 room)).setCell ⟨bm, 1, none⟩ lv') := by
  have hu : Upd (fun b => b = bm) W ((W.setCell ⟨bm, 0, none⟩ (.int .i64 room)).setCell ⟨bm, 1, none⟩ lv') := upd_trans (upd_mono (upd_setCell _) (fun b _ h => h)) (upd_mono (upd_setCell _) (fun b _ h => h)) (fun _ _ h => h)
  have hbx : bx ≠ bm := fun e => by subst e; have := h.m; rw [h.box] at this; simp at this
  refine ⟨st_upd h.st hu (fun b hb e => by subst e; exact st_off h.st h.m (by decide) (by decide) hb), row_upd hr hu (fun b hb e => ?_), ?_, (hu.block bx (block_lt h.box) hbx).trans h.box, ?_, h.low, h.lowm⟩
  · subst e
    rcases rowL_cases hr with ⟨rfl, _⟩ | ⟨g, cap, cur, rfl, hg, _⟩
    · cases hb
    · cases hb; have := h.m; rw [hg] at this; simp at this
  · have h1 : (W.setCell ⟨bm, 0, none⟩ (.int .i64 room)).heap[bm]? = some (.cells #[.int .i64 room, lv] 47 (0, 0)) := by rw [heap_setCell_at h.m]; rfl
    rw [heap_setCell_at h1]; rfl
  · exact ext_of_upd (upd_trans (upd_of_ext h.ext) hu (fun i hi e => by subst e; have := h.lowm; omega))
theorem mid_wrote {w : World} {s bm bx : Nat} {room : Int} {x : ActV} {Ls Ls' Lm : List Key} {lv : Value} {F : Nat → Prop} {W W' : World} (h : Mid w s bm bx room x Ls Lm lv F W) (hw : Wrote F s Ls' room W W') : ∃ F', Mid w s bm bx room x Ls' Lm lv F' W' := by
  obtain ⟨F', h1, h2, h3⟩ := hw
  refine ⟨F', h1, row_upd h.row h2 (rowL_off h.st h.row), (h2.block bm (block_lt h.m) (st_off h.st h.m (by decide) (by decide))).trans h.m, (h2.block bx (block_lt h.box) (st_off h.st h.box (by decide) (by decide))).trans h.box, ?_, fun b hb => ?_, h.lowm⟩
  · exact ext_of_upd (upd_trans (upd_of_ext h.ext) h2 (fun i hi e => by have := h.low i e; omega))
  · rcases h3 b hb with h4 | h4
    · exact h.low b h4
    · exact Nat.le_trans (ext_size h.ext) h4
theorem idxL_dec (L : List Key) (k : Key) : decide (0 ≤ idxL L k 0) = decide (k ∈ L) := by
  rw [decide_eq_decide]
  have := @idxL_lt L k
  constructor
  · intro h; exact Classical.byContradiction fun hn => by have := this.2 hn; omega
  · intro h; exact Classical.byContradiction fun hn => (this.1 (by omega)) h

theorem has_bb {f : Nat} {args : Array Value} {w : World} {b bb : Bool} (h : b = bb) (hc : Calls Tryd.prog f args w fun e w' => e = .returned (.bool b) ∧ Ext w w') : Calls Tryd.prog f args w fun e w' => e = .returned (.bool bb) ∧ Ext w w' := by
  rw [← h]; exact hc

set_option maxRecDepth 100000 in
set_option maxHeartbeats 4000000 in
theorem plays_row (room : Int) (A0 : Option Addr) (cap : Nat) (acts : List ActV) (w : World) (hL : Laid w) (hA : acts ≠ [] → ∃ b off, A0 = some ⟨b, off, none⟩ ∧ ActsIn w b off acts) (hn : acts.length ≤ 60) (hr1 : 1 ≤ room) (hr2 : room ≤ 100000) :
    Calls Tryd.prog 6 #[.int .i64 room, .slice A0 acts.length cap] w fun e w' => e = .returned (.bool true) ∧ Ext w w' := by
  have HL := Lib.hid hL
  have HA := Lib.hid hA
  clear hL hA
  have hn' : ¬ 60 < acts.length := by omega
  have hn2 : (acts.length : Int) ≤ 60 := by omega
  have hr1' : ¬ room < 1 := by omega
  have hr2' : ¬ 100000 < room := by omega
  go_enter Tryd.func6, Tryd.ntmps6
  go_wp2_with (first
    | (go_at_call 9; refine (awake_any _ HL.out).mono ?_; rintro e w1 ⟨rfl, hE⟩; have HE := Lib.hid hE; clear hE)
    | (go_at_call 15; refine (new_ok room hr1 hr2 _).mono ?_; rintro e w2 ⟨rfl, rfl⟩))
  clear hn' hr1' hr2'
  have HW1 := Lib.hid (show 1 < w1.heap.size from Nat.lt_of_lt_of_le HL.out.1 (ext_size HE.out))
  refine wp_gen (fun W hW => ?_)
  have HE1 : Hid (Ext w W) := Lib.hid (by rw [hW]; exact ext_alloc (ext_alloc HE.out _) _)
  have HM1 : Hid (W.heap[w1.heap.size + 1]? = some (.cells #[.int .i64 room, .slice none 0 0] 47 (0, 0))) := Lib.hid (by
    rw [hW]
    have := heap_alloc_new (w1.alloc (.cells #[.slice none 0 0, .slice none 0 0, .slice none 0 0, .int .i64 room] 65)) (.cells #[.int .i64 room, .slice none 0 0] 47)
    rwa [World.size_alloc] at this)
  have HS1 : Hid (∃ F, St W F w1.heap.size [] room ∧ ∀ b, F b → w.heap.size ≤ b) := Lib.hid ⟨fpS w1.heap.size nilV, by
    rw [hW]
    exact st_ext ⟨nilV, noKeys, store_new w1 room HW1.out, fun _ _ => List.Pairwise.nil, fun _ _ => List.Perm.nil, fun _ => Iff.rfl, fun _ h => by cases h⟩ (ext_alloc (ext_refl _) _), fun b hb => by
      rcases hb with rfl | ⟨i, hi, h⟩
      · exact ext_size HE.out
      · cases h⟩
  clear hW
  go_loopw [46] (fun x wr => ∃ (j : Nat) (L : List Key) (lv : Value) (F : Nat → Prop), j ≤ acts.length ∧ x = .int .i64 j ∧ PlayInv w w1.heap.size (w1.heap.size + 1) room j L lv F wr) (fun x _ => acts.length - (intOf x).toNat)
  case atStart =>
    obtain ⟨F, hF1, hF2⟩ := HS1.out
    exact ⟨0, [], .slice none 0 0, F, by omega, rfl, by simp, hF1, World.ownsRow_nil _ _ _ _, HM1.out, HE1.out, hF2⟩
  case round =>
    obtain ⟨j, L, lv, F, hj, rfl, hlen, hSt, hrow, hbm, hE0, hF⟩ := hrel
    have HSt := Lib.hid hSt
    have HRow := Lib.hid hrow
    have HBM := Lib.hid hbm
    have HE0 := Lib.hid hE0
    have HF := Lib.hid hF
    clear hSt hrow hbm hE0 hF
    by_cases hlt : j < acts.length
    · have hji : (j : Int) < (acts.length : Int) := by omega
      have hj0 : (0 : Int) ≤ (j : Int) := by omega
      obtain ⟨x, hx⟩ : ∃ x, acts[j]? = some x := ⟨_, List.getElem?_eq_getElem hlt⟩
      obtain ⟨b, off, hA0, hAI⟩ := HA.out (fun e => by rw [e] at hlt; simp at hlt)
      subst hA0
      obtain ⟨⟨a0, a1, a2, a3, a4⟩, x1, x2, x3, x4⟩ := hAI.2 j x hx
      have hbw := hAI.1
      replace a0 := (ext_cell HE0.out _ _ hbw).trans a0
      replace a1 := (ext_cell HE0.out _ _ hbw).trans a1
      replace a2 := (ext_cell HE0.out _ _ hbw).trans a2
      replace a3 := (ext_cell HE0.out _ _ hbw).trans a3
      replace a4 := (ext_cell HE0.out _ _ hbw).trans a4
      have HX := Lib.hid hx
      have lb := ext_lt HE0.out hbw
      clear hx hbw hAI
      have lm := block_lt HBM.out
      obtain ⟨A, c, rfl⟩ := rowL_form HRow.out
      have m0 : wr.cell? ⟨w1.heap.size + 1, 0, none⟩ = some (.int .i64 room) := block_cell HBM.out 0
      have m1 : wr.cell? ⟨w1.heap.size + 1, 1, none⟩ = some (.slice A L.length c) := block_cell HBM.out 1
      have hk : x.kind % 4 = 0 ∨ x.kind % 4 = 1 ∨ x.kind % 4 = 2 ∨ x.kind % 4 = 3 := by omega
      rcases hk with hk | hk | hk | hk
      · go_wp2_with (first
          | (go_at_call 20; refine (refadd_any room _ L x.key _ (row_ext HRow.out (ext_alloc (ext_refl _) _)) (by omega)).mono ?_; rintro e w3 ⟨lv3, rfl, hr3, hE3⟩; obtain ⟨A3, c3, rfl⟩ := rowL_form hr3; have HR3 := Lib.hid hr3; have hX3 := (ext_block hE3 (by simp)).trans (heap_alloc_new wr (.cells #[.int .u8 x.kind, .int .u8 x.num, .int .i64 x.key.a, .int .i64 x.key.b, .int .i64 x.key.c] 39)); have hE3' := ext_trans (ext_alloc (ext_refl wr) (.cells #[.int .u8 x.kind, .int .u8 x.num, .int .i64 x.key.a, .int .i64 x.key.b, .int .i64 x.key.c] 39)) hE3; have HM3 : Hid (Mid w w1.heap.size (w1.heap.size + 1) wr.heap.size room x L L (.slice A L.length c) F w3) := Lib.hid ⟨st_ext HSt.out hE3', row_ext HRow.out hE3', (ext_block hE3' lm).trans HBM.out, hX3, ext_trans HE0.out hE3', HF.out, Nat.le_succ_of_le (ext_size HE.out)⟩; clear hr3 hE3 hX3 hE3'; have z0 := block_frozen HM3.out.m 0; have z1 := block_frozen HM3.out.m 1; have n0 : w3.cell? ⟨w1.heap.size + 1, 0, none⟩ = some (.int .i64 room) := block_cell HM3.out.m 0; have n1 : w3.cell? ⟨w1.heap.size + 1, 1, none⟩ = some (.slice A L.length c) := block_cell HM3.out.m 1; have y1 : w3.cell? ⟨wr.heap.size, 1, none⟩ = some (.int .u8 x.num) := block_cell HM3.out.box 1; have y2 : w3.cell? ⟨wr.heap.size, 2, none⟩ = some (.int .i64 x.key.a) := block_cell HM3.out.box 2; have y3 : w3.cell? ⟨wr.heap.size, 3, none⟩ = some (.int .i64 x.key.b) := block_cell HM3.out.box 3; have y4 : w3.cell? ⟨wr.heap.size, 4, none⟩ = some (.int .i64 x.key.c) := block_cell HM3.out.box 4; have lm3 := block_lt HM3.out.m; have lx3 := block_lt HM3.out.box)
          | (go_at_call 16; have hM4 := mid_put HM3.out HR3.out; refine (sto_add x.key (laid_ext HL.out hM4.ext) hM4.st (by omega)).mono ?_; rintro e w5 ⟨rfl, hW5⟩; obtain ⟨F5, hM5⟩ := mid_wrote hM4 hW5; clear hM4 hW5; refine halt_here ?_))
        refine go_on ?_
        clear z0 z1 n0 n1 y1 y2 y3 y4
        have HM5 := Lib.hid hM5
        clear hM5
        have z0 := block_frozen HM5.out.m 0
        have z1 := block_frozen HM5.out.m 1
        have n0 : w5.cell? ⟨w1.heap.size + 1, 0, none⟩ = some (.int .i64 room) := block_cell HM5.out.m 0
        have n1 : w5.cell? ⟨w1.heap.size + 1, 1, none⟩ = some (.slice A3 (addL room L x.key).length c3) := block_cell HM5.out.m 1
        have y2 : w5.cell? ⟨wr.heap.size, 2, none⟩ = some (.int .i64 x.key.a) := block_cell HM5.out.box 2
        have y3 : w5.cell? ⟨wr.heap.size, 3, none⟩ = some (.int .i64 x.key.b) := block_cell HM5.out.box 3
        have y4 : w5.cell? ⟨wr.heap.size, 4, none⟩ = some (.int .i64 x.key.c) := block_cell HM5.out.box 4
        have lm5 := block_lt HM5.out.m
        have lx5 := block_lt HM5.out.box
        have hgc := cell_grown
        go_wp2
        obtain ⟨bb, hbb⟩ : ∃ bb, decide (x.key ∈ addL room L x.key) = bb := ⟨_, rfl⟩
        have hbi : decide (0 ≤ idxL (addL room L x.key) x.key 0) = bb := (idxL_dec _ _).trans hbb
        have HBB := Lib.hid hbb
        clear hbb
        have HL5 := Lib.hid (laid_ext HL.out HM5.out.ext)
        have hlen5 : (addL room L x.key).length ≤ 61 := Nat.le_trans (addL_length room L x.key) (by omega)
        have HLen5 := Lib.hid hlen5
        clear hlen5
        refine wp_region_free 25 [0, 1, 2, 3, 4, 5, 6, 7, 8, 9, 10, 11, 12, 13, 14, 15, 16, 17, 18, 19, 20, 21, 22, 23, 24] [] (by kernel_rfl) (by kernel_rfl) ?_
        repeat (refine wpLoose_step rfl (fun K hK => ?_); (try simp only [Oper.quietAt, Oper.quietUpon]); go_simp; first
          | (refine hK _ ?_; clear hK K)
          | (apply Exists.intro; refine ⟨fun pp => ?_, hK _ ?_⟩; (first
            | (go_at_call 19; (with_reducible refine has_bb HBB.out (sto_has x.key (laid_ext HL5.out (ext_grow (ext_refl _) _ _)) (st_ext HM5.out.st (ext_grow (ext_refl _) _ _)) (by have := HLen5.out; omega))))
            | (go_at_call 26; (with_reducible refine refind_row room _ (addL room L x.key) x.key _ (rowL_ext HM5.out.row (ext_grow (ext_refl _) _ _)) (by have := HLen5.out; omega)))
            | (go_at_call 27; (with_reducible refine (sto_len (st_ext HM5.out.st (ext_grow (ext_refl _) _ _))).mono (fun _ _ h => ⟨h.1, by rw [← h.2]; exact ext_refl _⟩)))
            | (go_at_call 25; (with_reducible refine scanned_any _ ⟨-1, -1, -1⟩ 1000 _ (laid_ext HL5.out (ext_grow (ext_refl _) _ _)) (st_ext HM5.out.st (ext_grow (ext_refl _) _ _)) (rowL_ext HM5.out.row (ext_grow (ext_refl _) _ _)) (by have := HLen5.out; omega)))); clear hK K))
        refine wpLoose_nil (wpFresh_nil (fun w7 hE7 _ => ?_))
        have hM7 := mid_ext HM5.out hE7
        have HM7 := Lib.hid hM7
        clear hM7 hE7 hgc hbi z0 z1 n0 n1 y2 y3 y4 lm5 lx5
        simp only [List.drop_succ_cons, List.drop_zero]
        refine wpList_nil ?_
        go_wp2
        go_roundw
        case rel => exact ⟨j + 1, _, _, F5, by omega, by go_num, Nat.le_trans (addL_length room L x.key) (by omega), HM7.out.st, HM7.out.row, HM7.out.m, HM7.out.ext, HM7.out.low⟩
        case measure => simp [intOf]; omega
      · go_wp2_with (first
          | (go_at_call 20; refine (refadd_any room _ L x.key _ (row_ext HRow.out (ext_alloc (ext_refl _) _)) (by omega)).mono ?_; rintro e w3 ⟨lv3, rfl, hr3, hE3⟩; obtain ⟨A3, c3, rfl⟩ := rowL_form hr3; have HR3 := Lib.hid hr3; have hX3 := (ext_block hE3 (by simp)).trans (heap_alloc_new wr (.cells #[.int .u8 x.kind, .int .u8 x.num, .int .i64 x.key.a, .int .i64 x.key.b, .int .i64 x.key.c] 39)); have hE3' := ext_trans (ext_alloc (ext_refl wr) (.cells #[.int .u8 x.kind, .int .u8 x.num, .int .i64 x.key.a, .int .i64 x.key.b, .int .i64 x.key.c] 39)) hE3; have HM3 : Hid (Mid w w1.heap.size (w1.heap.size + 1) wr.heap.size room x L L (.slice A L.length c) F w3) := Lib.hid ⟨st_ext HSt.out hE3', row_ext HRow.out hE3', (ext_block hE3' lm).trans HBM.out, hX3, ext_trans HE0.out hE3', HF.out, Nat.le_succ_of_le (ext_size HE.out)⟩; clear hr3 hE3 hX3 hE3'; have z0 := block_frozen HM3.out.m 0; have z1 := block_frozen HM3.out.m 1; have n0 : w3.cell? ⟨w1.heap.size + 1, 0, none⟩ = some (.int .i64 room) := block_cell HM3.out.m 0; have n1 : w3.cell? ⟨w1.heap.size + 1, 1, none⟩ = some (.slice A L.length c) := block_cell HM3.out.m 1; have y1 : w3.cell? ⟨wr.heap.size, 1, none⟩ = some (.int .u8 x.num) := block_cell HM3.out.box 1; have y2 : w3.cell? ⟨wr.heap.size, 2, none⟩ = some (.int .i64 x.key.a) := block_cell HM3.out.box 2; have y3 : w3.cell? ⟨wr.heap.size, 3, none⟩ = some (.int .i64 x.key.b) := block_cell HM3.out.box 3; have y4 : w3.cell? ⟨wr.heap.size, 4, none⟩ = some (.int .i64 x.key.c) := block_cell HM3.out.box 4; have lm3 := block_lt HM3.out.m; have lx3 := block_lt HM3.out.box)
          | (go_at_call 16; have hM4 := mid_put HM3.out HR3.out; refine (sto_add x.key (laid_ext HL.out hM4.ext) hM4.st (by omega)).mono ?_; rintro e w5 ⟨rfl, hW5⟩; obtain ⟨F5, hM5⟩ := mid_wrote hM4 hW5; clear hM4 hW5; refine halt_here ?_))
        refine go_on ?_
        clear z0 z1 n0 n1 y1 y2 y3 y4
        have HM5 := Lib.hid hM5
        clear hM5
        have z0 := block_frozen HM5.out.m 0
        have z1 := block_frozen HM5.out.m 1
        have n0 : w5.cell? ⟨w1.heap.size + 1, 0, none⟩ = some (.int .i64 room) := block_cell HM5.out.m 0
        have n1 : w5.cell? ⟨w1.heap.size + 1, 1, none⟩ = some (.slice A3 (addL room L x.key).length c3) := block_cell HM5.out.m 1
        have y2 : w5.cell? ⟨wr.heap.size, 2, none⟩ = some (.int .i64 x.key.a) := block_cell HM5.out.box 2
        have y3 : w5.cell? ⟨wr.heap.size, 3, none⟩ = some (.int .i64 x.key.b) := block_cell HM5.out.box 3
        have y4 : w5.cell? ⟨wr.heap.size, 4, none⟩ = some (.int .i64 x.key.c) := block_cell HM5.out.box 4
        have lm5 := block_lt HM5.out.m
        have lx5 := block_lt HM5.out.box
        have hgc := cell_grown
        go_wp2
        obtain ⟨bb, hbb⟩ : ∃ bb, decide (x.key ∈ addL room L x.key) = bb := ⟨_, rfl⟩
        have hbi : decide (0 ≤ idxL (addL room L x.key) x.key 0) = bb := (idxL_dec _ _).trans hbb
        have HBB := Lib.hid hbb
        clear hbb
        have HL5 := Lib.hid (laid_ext HL.out HM5.out.ext)
        have hlen5 : (addL room L x.key).length ≤ 61 := Nat.le_trans (addL_length room L x.key) (by omega)
        have HLen5 := Lib.hid hlen5
        clear hlen5
        refine wp_region_free 25 [0, 1, 2, 3, 4, 5, 6, 7, 8, 9, 10, 11, 12, 13, 14, 15, 16, 17, 18, 19, 20, 21, 22, 23, 24] [] (by kernel_rfl) (by kernel_rfl) ?_
        repeat (refine wpLoose_step rfl (fun K hK => ?_); (try simp only [Oper.quietAt, Oper.quietUpon]); go_simp; first
          | (refine hK _ ?_; clear hK K)
          | (apply Exists.intro; refine ⟨fun pp => ?_, hK _ ?_⟩; (first
            | (go_at_call 19; (with_reducible refine has_bb HBB.out (sto_has x.key (laid_ext HL5.out (ext_grow (ext_refl _) _ _)) (st_ext HM5.out.st (ext_grow (ext_refl _) _ _)) (by have := HLen5.out; omega))))
            | (go_at_call 26; (with_reducible refine refind_row room _ (addL room L x.key) x.key _ (rowL_ext HM5.out.row (ext_grow (ext_refl _) _ _)) (by have := HLen5.out; omega)))
            | (go_at_call 27; (with_reducible refine (sto_len (st_ext HM5.out.st (ext_grow (ext_refl _) _ _))).mono (fun _ _ h => ⟨h.1, by rw [← h.2]; exact ext_refl _⟩)))
            | (go_at_call 25; (with_reducible refine scanned_any _ ⟨-1, -1, -1⟩ 1000 _ (laid_ext HL5.out (ext_grow (ext_refl _) _ _)) (st_ext HM5.out.st (ext_grow (ext_refl _) _ _)) (rowL_ext HM5.out.row (ext_grow (ext_refl _) _ _)) (by have := HLen5.out; omega)))); clear hK K))
        refine wpLoose_nil (wpFresh_nil (fun w7 hE7 _ => ?_))
        have hM7 := mid_ext HM5.out hE7
        have HM7 := Lib.hid hM7
        clear hM7 hE7 hgc hbi z0 z1 n0 n1 y2 y3 y4 lm5 lx5
        simp only [List.drop_succ_cons, List.drop_zero]
        refine wpList_nil ?_
        go_wp2
        go_roundw
        case rel => exact ⟨j + 1, _, _, F5, by omega, by go_num, Nat.le_trans (addL_length room L x.key) (by omega), HM7.out.st, HM7.out.row, HM7.out.m, HM7.out.ext, HM7.out.low⟩
        case measure => simp [intOf]; omega
      · go_wp2_with (first
          | (go_at_call 23; refine (refremove_any room _ L x.key _ (row_ext HRow.out (ext_alloc (ext_refl _) _)) (by omega)).mono ?_; rintro e w3 ⟨lv3, rfl, hr3, hE3⟩; obtain ⟨A3, c3, rfl⟩ := rowL_form hr3; have HR3 := Lib.hid hr3; have hX3 := (ext_block hE3 (by simp)).trans (heap_alloc_new wr (.cells #[.int .u8 x.kind, .int .u8 x.num, .int .i64 x.key.a, .int .i64 x.key.b, .int .i64 x.key.c] 39)); have hE3' := ext_trans (ext_alloc (ext_refl wr) (.cells #[.int .u8 x.kind, .int .u8 x.num, .int .i64 x.key.a, .int .i64 x.key.b, .int .i64 x.key.c] 39)) hE3; have HM3 : Hid (Mid w w1.heap.size (w1.heap.size + 1) wr.heap.size room x L L (.slice A L.length c) F w3) := Lib.hid ⟨st_ext HSt.out hE3', row_ext HRow.out hE3', (ext_block hE3' lm).trans HBM.out, hX3, ext_trans HE0.out hE3', HF.out, Nat.le_succ_of_le (ext_size HE.out)⟩; clear hr3 hE3 hX3 hE3'; have z0 := block_frozen HM3.out.m 0; have z1 := block_frozen HM3.out.m 1; have n0 : w3.cell? ⟨w1.heap.size + 1, 0, none⟩ = some (.int .i64 room) := block_cell HM3.out.m 0; have n1 : w3.cell? ⟨w1.heap.size + 1, 1, none⟩ = some (.slice A L.length c) := block_cell HM3.out.m 1; have y1 : w3.cell? ⟨wr.heap.size, 1, none⟩ = some (.int .u8 x.num) := block_cell HM3.out.box 1; have y2 : w3.cell? ⟨wr.heap.size, 2, none⟩ = some (.int .i64 x.key.a) := block_cell HM3.out.box 2; have y3 : w3.cell? ⟨wr.heap.size, 3, none⟩ = some (.int .i64 x.key.b) := block_cell HM3.out.box 3; have y4 : w3.cell? ⟨wr.heap.size, 4, none⟩ = some (.int .i64 x.key.c) := block_cell HM3.out.box 4; have lm3 := block_lt HM3.out.m; have lx3 := block_lt HM3.out.box)
          | (go_at_call 24; have hM4 := mid_put HM3.out HR3.out; refine (sto_remove x.key (laid_ext HL.out hM4.ext) hM4.st (by omega)).mono ?_; rintro e w5 ⟨rfl, hW5⟩; obtain ⟨F5, hM5⟩ := mid_wrote hM4 hW5; clear hM4 hW5; refine halt_here ?_))
        refine go_on ?_
        clear z0 z1 n0 n1 y1 y2 y3 y4
        have HM5 := Lib.hid hM5
        clear hM5
        have z0 := block_frozen HM5.out.m 0
        have z1 := block_frozen HM5.out.m 1
        have n0 : w5.cell? ⟨w1.heap.size + 1, 0, none⟩ = some (.int .i64 room) := block_cell HM5.out.m 0
        have n1 : w5.cell? ⟨w1.heap.size + 1, 1, none⟩ = some (.slice A3 (remL L x.key).length c3) := block_cell HM5.out.m 1
        have y2 : w5.cell? ⟨wr.heap.size, 2, none⟩ = some (.int .i64 x.key.a) := block_cell HM5.out.box 2
        have y3 : w5.cell? ⟨wr.heap.size, 3, none⟩ = some (.int .i64 x.key.b) := block_cell HM5.out.box 3
        have y4 : w5.cell? ⟨wr.heap.size, 4, none⟩ = some (.int .i64 x.key.c) := block_cell HM5.out.box 4
        have lm5 := block_lt HM5.out.m
        have lx5 := block_lt HM5.out.box
        have hgc := cell_grown
        go_wp2
        obtain ⟨bb, hbb⟩ : ∃ bb, decide (x.key ∈ remL L x.key) = bb := ⟨_, rfl⟩
        have hbi : decide (0 ≤ idxL (remL L x.key) x.key 0) = bb := (idxL_dec _ _).trans hbb
        have HBB := Lib.hid hbb
        clear hbb
        have HL5 := Lib.hid (laid_ext HL.out HM5.out.ext)
        have hlen5 : (remL L x.key).length ≤ 61 := Nat.le_trans (remL_length L x.key) (by omega)
        have HLen5 := Lib.hid hlen5
        clear hlen5
        refine wp_region_free 25 [0, 1, 2, 3, 4, 5, 6, 7, 8, 9, 10, 11, 12, 13, 14, 15, 16, 17, 18, 19, 20, 21, 22, 23, 24] [] (by kernel_rfl) (by kernel_rfl) ?_
        repeat (refine wpLoose_step rfl (fun K hK => ?_); (try simp only [Oper.quietAt, Oper.quietUpon]); go_simp; first
          | (refine hK _ ?_; clear hK K)
          | (apply Exists.intro; refine ⟨fun pp => ?_, hK _ ?_⟩; (first
            | (go_at_call 19; (with_reducible refine has_bb HBB.out (sto_has x.key (laid_ext HL5.out (ext_grow (ext_refl _) _ _)) (st_ext HM5.out.st (ext_grow (ext_refl _) _ _)) (by have := HLen5.out; omega))))
            | (go_at_call 26; (with_reducible refine refind_row room _ (remL L x.key) x.key _ (rowL_ext HM5.out.row (ext_grow (ext_refl _) _ _)) (by have := HLen5.out; omega)))
            | (go_at_call 27; (with_reducible refine (sto_len (st_ext HM5.out.st (ext_grow (ext_refl _) _ _))).mono (fun _ _ h => ⟨h.1, by rw [← h.2]; exact ext_refl _⟩)))
            | (go_at_call 25; (with_reducible refine scanned_any _ ⟨-1, -1, -1⟩ 1000 _ (laid_ext HL5.out (ext_grow (ext_refl _) _ _)) (st_ext HM5.out.st (ext_grow (ext_refl _) _ _)) (rowL_ext HM5.out.row (ext_grow (ext_refl _) _ _)) (by have := HLen5.out; omega)))); clear hK K))
        refine wpLoose_nil (wpFresh_nil (fun w7 hE7 _ => ?_))
        have hM7 := mid_ext HM5.out hE7
        have HM7 := Lib.hid hM7
        clear hM7 hE7 hgc hbi z0 z1 n0 n1 y2 y3 y4 lm5 lx5
        simp only [List.drop_succ_cons, List.drop_zero]
        refine wpList_nil ?_
        go_wp2
        go_roundw
        case rel => exact ⟨j + 1, _, _, F5, by omega, by go_num, Nat.le_trans (remL_length L x.key) (by omega), HM7.out.st, HM7.out.row, HM7.out.m, HM7.out.ext, HM7.out.low⟩
        case measure => simp [intOf]; omega
      · go_wp2_with (go_at_call 25; have hE3 := ext_alloc (ext_refl wr) (.cells #[.int .u8 x.kind, .int .u8 x.num, .int .i64 x.key.a, .int .i64 x.key.b, .int .i64 x.key.c] 39); refine (scanned_any _ x.key x.num _ (laid_ext HL.out (ext_trans HE0.out hE3)) (st_ext HSt.out hE3) (rowL_ext HRow.out hE3) (by omega)).mono ?_; rintro e w5 ⟨rfl, hE5⟩; have hM5 : Mid w w1.heap.size (w1.heap.size + 1) wr.heap.size room x L L (.slice A L.length c) F w5 := mid_ext ⟨st_ext HSt.out hE3, row_ext HRow.out hE3, (ext_block hE3 lm).trans HBM.out, heap_alloc_new wr _, ext_trans HE0.out hE3, HF.out, Nat.le_succ_of_le (ext_size HE.out)⟩ hE5; clear hE3 hE5; refine halt_here ?_)
        refine go_on ?_
        have HM5 := Lib.hid hM5
        clear hM5
        have z0 := block_frozen HM5.out.m 0
        have z1 := block_frozen HM5.out.m 1
        have n0 : w5.cell? ⟨w1.heap.size + 1, 0, none⟩ = some (.int .i64 room) := block_cell HM5.out.m 0
        have n1 : w5.cell? ⟨w1.heap.size + 1, 1, none⟩ = some (.slice A L.length c) := block_cell HM5.out.m 1
        have y2 : w5.cell? ⟨wr.heap.size, 2, none⟩ = some (.int .i64 x.key.a) := block_cell HM5.out.box 2
        have y3 : w5.cell? ⟨wr.heap.size, 3, none⟩ = some (.int .i64 x.key.b) := block_cell HM5.out.box 3
        have y4 : w5.cell? ⟨wr.heap.size, 4, none⟩ = some (.int .i64 x.key.c) := block_cell HM5.out.box 4
        have lm5 := block_lt HM5.out.m
        have lx5 := block_lt HM5.out.box
        have hgc := cell_grown
        go_wp2
        obtain ⟨bb, hbb⟩ : ∃ bb, decide (x.key ∈ L) = bb := ⟨_, rfl⟩
        have hbi : decide (0 ≤ idxL (L) x.key 0) = bb := (idxL_dec _ _).trans hbb
        have HBB := Lib.hid hbb
        clear hbb
        have HL5 := Lib.hid (laid_ext HL.out HM5.out.ext)
        have hlen5 : (L).length ≤ 61 := by omega
        have HLen5 := Lib.hid hlen5
        clear hlen5
        refine wp_region_free 25 [0, 1, 2, 3, 4, 5, 6, 7, 8, 9, 10, 11, 12, 13, 14, 15, 16, 17, 18, 19, 20, 21, 22, 23, 24] [] (by kernel_rfl) (by kernel_rfl) ?_
        repeat (refine wpLoose_step rfl (fun K hK => ?_); (try simp only [Oper.quietAt, Oper.quietUpon]); go_simp; first
          | (refine hK _ ?_; clear hK K)
          | (apply Exists.intro; refine ⟨fun pp => ?_, hK _ ?_⟩; (first
            | (go_at_call 19; (with_reducible refine has_bb HBB.out (sto_has x.key (laid_ext HL5.out (ext_grow (ext_refl _) _ _)) (st_ext HM5.out.st (ext_grow (ext_refl _) _ _)) (by have := HLen5.out; omega))))
            | (go_at_call 26; (with_reducible refine refind_row room _ (L) x.key _ (rowL_ext HM5.out.row (ext_grow (ext_refl _) _ _)) (by have := HLen5.out; omega)))
            | (go_at_call 27; (with_reducible refine (sto_len (st_ext HM5.out.st (ext_grow (ext_refl _) _ _))).mono (fun _ _ h => ⟨h.1, by rw [← h.2]; exact ext_refl _⟩)))
            | (go_at_call 25; (with_reducible refine scanned_any _ ⟨-1, -1, -1⟩ 1000 _ (laid_ext HL5.out (ext_grow (ext_refl _) _ _)) (st_ext HM5.out.st (ext_grow (ext_refl _) _ _)) (rowL_ext HM5.out.row (ext_grow (ext_refl _) _ _)) (by have := HLen5.out; omega)))); clear hK K))
        refine wpLoose_nil (wpFresh_nil (fun w7 hE7 _ => ?_))
        have hM7 := mid_ext HM5.out hE7
        have HM7 := Lib.hid hM7
        clear hM7 hE7 hgc hbi z0 z1 n0 n1 y2 y3 y4 lm5 lx5
        simp only [List.drop_succ_cons, List.drop_zero]
        refine wpList_nil ?_
        go_wp2
        go_roundw
        case rel => exact ⟨j + 1, _, _, F, by omega, by go_num, by omega, HM7.out.st, HM7.out.row, HM7.out.m, HM7.out.ext, HM7.out.low⟩
        case measure => simp [intOf]; omega
    · obtain rfl : j = acts.length := by omega
      go_wp2
      go_ret
      exact ⟨rfl, HE0.out⟩
end Go.Proofs.YtfaegjlolhpofaaDoor
