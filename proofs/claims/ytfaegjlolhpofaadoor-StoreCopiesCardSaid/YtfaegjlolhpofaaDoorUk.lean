/- StoreCopies, walked. -/
import Derived.Test.YtfaegjlolhpofaaDoorUj
import Derived.Test.YtfaegjlolhpofaaDoorRb
namespace Go.Proofs.YtfaegjlolhpofaaDoor
open Go.RowKit Go.Sort
set_option maxHeartbeats 800000

/-- two stores and the document's two lists -/
structure Env2 (w : World) (s c bm bn : Nat) (Ls1 Ls2 Lm1 Lm2 : List Key) (lv1 lv2 : Value) (F F2 : Nat → Prop) (B : BoxL) (W : World) : Prop where
  st1 : St W F s Ls1 50
  st2 : St W F2 c Ls2 50
  disj : ∀ b, F b → ¬ F2 b
  row1 : rowL W lv1 Lm1
  row2 : rowL W lv2 Lm2
  m1 : W.heap[bm]? = some (.cells #[.int .i64 50, lv1] 47 (0, 0))
  m2 : W.heap[bn]? = some (.cells #[.int .i64 50, lv2] 47 (0, 0))
  ne : bm ≠ bn
  boxes : Boxes B W
  ext : Ext w W
  low1 : ∀ b, F b → w.heap.size ≤ b
  low2 : ∀ b, F2 b → w.heap.size ≤ b
  lowm1 : w.heap.size ≤ bm
  lowm2 : w.heap.size ≤ bn
section
variable {w : World} {s c bm bn : Nat} {Ls1 Ls2 Lm1 Lm2 Ls' Lm' : List Key} {lv1 lv2 lv' : Value} {F F2 : Nat → Prop} {B : BoxL} {W W' : World}
theorem env2_swap (h : Env2 w s c bm bn Ls1 Ls2 Lm1 Lm2 lv1 lv2 F F2 B W) : Env2 w c s bn bm Ls2 Ls1 Lm2 Lm1 lv2 lv1 F2 F B W :=
  ⟨h.st2, h.st1, fun b h2 h1 => h.disj b h1 h2, h.row2, h.row1, h.m2, h.m1, h.ne.symm, h.boxes, h.ext, h.low2, h.low1, h.lowm2, h.lowm1⟩
theorem env2_ext (h : Env2 w s c bm bn Ls1 Ls2 Lm1 Lm2 lv1 lv2 F F2 B W) (hE : Ext W W') : Env2 w s c bm bn Ls1 Ls2 Lm1 Lm2 lv1 lv2 F F2 B W' :=
  ⟨st_ext h.st1 hE, st_ext h.st2 hE, h.disj, row_ext h.row1 hE, row_ext h.row2 hE, (ext_block hE (block_lt h.m1)).trans h.m1, (ext_block hE (block_lt h.m2)).trans h.m2, h.ne, boxes_ext h.boxes hE, ext_trans h.ext hE, h.low1, h.low2, h.lowm1, h.lowm2⟩
theorem env2_push {b : Nat} {cs : Array Value} {t : TypeId} (h : Env2 w s c bm bn Ls1 Ls2 Lm1 Lm2 lv1 lv2 F F2 B W) (hb : W.heap[b]? = some (.cells cs t (0, 0))) (h1 : t ≠ 25) (h2 : t ≠ 65) (h3 : t ≠ 47) : Env2 w s c bm bn Ls1 Ls2 Lm1 Lm2 lv1 lv2 F F2 ((b, cs, t) :: B) W :=
  ⟨h.st1, h.st2, h.disj, h.row1, h.row2, h.m1, h.m2, h.ne, boxes_cons h.boxes hb h1 h2 h3, h.ext, h.low1, h.low2, h.lowm1, h.lowm2⟩
theorem env2_pop {z : Nat × Array Value × TypeId} (h : Env2 w s c bm bn Ls1 Ls2 Lm1 Lm2 lv1 lv2 F F2 (z :: B) W) : Env2 w s c bm bn Ls1 Ls2 Lm1 Lm2 lv1 lv2 F F2 B W :=
  ⟨h.st1, h.st2, h.disj, h.row1, h.row2, h.m1, h.m2, h.ne, boxes_tail h.boxes, h.ext, h.low1, h.low2, h.lowm1, h.lowm2⟩
theorem env2_wrote (h : Env2 w s c bm bn Ls1 Ls2 Lm1 Lm2 lv1 lv2 F F2 B W) (hw : Wrote F s Ls' 50 W W') : ∃ F', Env2 w s c bm bn Ls' Ls2 Lm1 Lm2 lv1 lv2 F' F2 B W' := by
  obtain ⟨F', h1, h2, h3⟩ := hw
  refine ⟨F', h1, st_upd h.st2 h2 (fun b hb2 hb1 => h.disj b hb1 hb2), fun b hb hb2 => ?_, row_upd h.row1 h2 (rowL_off h.st1 h.row1), row_upd h.row2 h2 (rowL_off h.st1 h.row2), (h2.block bm (block_lt h.m1) (st_off h.st1 h.m1 (by decide) (by decide))).trans h.m1, (h2.block bn (block_lt h.m2) (st_off h.st1 h.m2 (by decide) (by decide))).trans h.m2, h.ne, boxes_upd h.boxes h.st1 h2, ?_, fun b hb => ?_, h.low2, h.lowm1, h.lowm2⟩
  · rcases h3 b hb with h4 | h4
    · exact h.disj b h4 hb2
    · have := st_lt h.st2 hb2; omega
  · exact ext_of_upd (upd_trans (upd_of_ext h.ext) h2 (fun i hi e => by have := h.low1 i e; omega))
  · rcases h3 b hb with h4 | h4
    · exact h.low1 b h4
    · exact Nat.le_trans (ext_size h.ext) h4
theorem row_notbox {W : World} {bm : Nat} {cs : Array Value} {v : Value} {L : List Key} (hm : W.heap[bm]? = some (.cells cs 47 (0, 0))) (hr : rowL W v L) : ∀ b, v.ownBlock = some b → ¬ b = bm := fun b hb e => by
  subst e
  rcases rowL_cases hr with ⟨rfl, _⟩ | ⟨g, cap, cur, rfl, hg, _⟩
  · cases hb
  · cases hb; rw [hg] at hm; simp at hm
theorem env2_put (h : Env2 w s c bm bn Ls1 Ls2 Lm1 Lm2 lv1 lv2 F F2 B W) (hr : rowL W lv' Lm') : Env2 w s c bm bn Ls1 Ls2 Lm' Lm2 lv' lv2 F F2 B ((W.setCell ⟨bm, 0, none⟩ (.int .i64 50)).setCell ⟨bm, 1, none⟩ lv') := by
  have hu : Upd (fun b => b = bm) W ((W.setCell ⟨bm, 0, none⟩ (.int .i64 50)).setCell ⟨bm, 1, none⟩ lv') := upd_trans (upd_mono (upd_setCell _) (fun b _ h => h)) (upd_mono (upd_setCell _) (fun b _ h => h)) (fun _ _ h => h)
  refine ⟨st_upd h.st1 hu (fun b hb e => by subst e; exact st_off h.st1 h.m1 (by decide) (by decide) hb), st_upd h.st2 hu (fun b hb e => by subst e; exact st_off h.st2 h.m1 (by decide) (by decide) hb), h.disj, row_upd hr hu (row_notbox h.m1 hr), row_upd h.row2 hu (row_notbox h.m1 h.row2), ?_, (hu.block bn (block_lt h.m2) (fun e => h.ne e.symm)).trans h.m2, h.ne, fun z hz => ⟨(hu.block z.1 (block_lt (h.boxes z hz).1) (fun e => ?_)).trans (h.boxes z hz).1, (h.boxes z hz).2⟩, ?_, h.low1, h.low2, h.lowm1, h.lowm2⟩
  · have h1 : (W.setCell ⟨bm, 0, none⟩ (.int .i64 50)).heap[bm]? = some (.cells #[.int .i64 50, lv1] 47 (0, 0)) := by rw [heap_setCell_at h.m1]; rfl
    rw [heap_setCell_at h1]; rfl
  · have h1 := (h.boxes z hz).1
    rw [e, h.m1] at h1
    simp only [Option.some.injEq, Obj.cells.injEq] at h1
    exact (h.boxes z hz).2.2.2 h1.2.1.symm
  · exact ext_of_upd (upd_trans (upd_of_ext h.ext) hu (fun i hi e => by subst e; have := h.lowm1; omega))
end
theorem env2_make {w wr w8 : World} {s bm c2 bn : Nat} {L : List Key} {lv x y : Value} {F F2 : Nat → Prop} (h : Env w s bm 50 L L lv F [] wr) (hE : Ext wr w8) (h2 : St w8 F2 c2 L 50) (hf : ∀ b, F2 b → wr.heap.size ≤ b) (hbn : wr.heap.size ≤ bn) (hb : w8.heap[bn]? = some (.cells #[x, y] 47 (0, 0))) :
    Env2 w s c2 bm bn L L L L lv lv F F2 [] ((w8.setCell ⟨bn, 0, none⟩ (.int .i64 50)).setCell ⟨bn, 1, none⟩ lv) := by
  have hu : Upd (fun b => b = bn) w8 ((w8.setCell ⟨bn, 0, none⟩ (.int .i64 50)).setCell ⟨bn, 1, none⟩ lv) := upd_trans (upd_mono (upd_setCell _) (fun b _ h => h)) (upd_mono (upd_setCell _) (fun b _ h => h)) (fun _ _ h => h)
  have hr := row_ext h.row hE
  have hm := block_lt h.m
  have hsz := ext_size h.ext
  have hr2 := row_upd hr hu (row_notbox hb hr)
  refine ⟨st_upd (st_ext h.st hE) hu (fun b hb1 e => by subst e; have := st_lt h.st hb1; omega), st_upd h2 hu (fun b hb1 e => by subst e; exact st_off h2 hb (by decide) (by decide) hb1), fun b h1 h3 => ?_, hr2, hr2, (hu.block bm (Nat.lt_of_lt_of_le hm (ext_size hE)) (by omega)).trans ((ext_block hE hm).trans h.m), ?_, by omega, boxes_nil, ext_of_upd (upd_trans (upd_of_ext (ext_trans h.ext hE)) hu (fun i hi e => by subst e; omega)), h.low, fun b hb1 => Nat.le_trans hsz (hf b hb1), h.lowm, Nat.le_trans hsz hbn⟩
  · have := st_lt h.st h1
    have := hf b h3
    omega
  · have h1 : (w8.setCell ⟨bn, 0, none⟩ (.int .i64 50)).heap[bn]? = some (.cells #[.int .i64 50, y] 47 (0, 0)) := by rw [heap_setCell_at hb]; rfl
    rw [heap_setCell_at h1]; rfl
theorem ix58_0 : ∀ w, (Instr.index 58 (.agg #[.int .i64 (-1), .int .i64 (-1), .int .i64 (-1), .int .i64 1, .int .i64 (-1), .int .i64 (-1), .int .i64 (-1), .int .i64 1, .int .i64 (-1), .int .i64 (-1), .int .i64 (-1), .int .i64 1]) (.int .i64 0)).run Tryd.prog w = .ok (K3 (-1) (-1) (-1)) w := fun _ => by kernel_rfl
theorem ix58_1 : ∀ w, (Instr.index 58 (.agg #[.int .i64 (-1), .int .i64 (-1), .int .i64 (-1), .int .i64 1, .int .i64 (-1), .int .i64 (-1), .int .i64 (-1), .int .i64 1, .int .i64 (-1), .int .i64 (-1), .int .i64 (-1), .int .i64 1]) (.int .i64 1)).run Tryd.prog w = .ok (K3 (1) (-1) (-1)) w := fun _ => by kernel_rfl
theorem ix58_2 : ∀ w, (Instr.index 58 (.agg #[.int .i64 (-1), .int .i64 (-1), .int .i64 (-1), .int .i64 1, .int .i64 (-1), .int .i64 (-1), .int .i64 (-1), .int .i64 1, .int .i64 (-1), .int .i64 (-1), .int .i64 (-1), .int .i64 1]) (.int .i64 2)).run Tryd.prog w = .ok (K3 (-1) (1) (-1)) w := fun _ => by kernel_rfl
theorem ix58_3 : ∀ w, (Instr.index 58 (.agg #[.int .i64 (-1), .int .i64 (-1), .int .i64 (-1), .int .i64 1, .int .i64 (-1), .int .i64 (-1), .int .i64 (-1), .int .i64 1, .int .i64 (-1), .int .i64 (-1), .int .i64 (-1), .int .i64 1]) (.int .i64 3)).run Tryd.prog w = .ok (K3 (-1) (-1) (1)) w := fun _ => by kernel_rfl
def CopyR (H : Nat) (L : List Key) (v : Value) (W : World) : Prop := ∃ (c : Nat) (F' : Nat → Prop), v = .pointer (some ⟨c, 0, none⟩) ∧ St W F' c L 50 ∧ (∀ b, F' b → H ≤ b)
def BoxR (H : Nat) (v : Value) (W : World) : Prop := ∃ b, v = .pointer (some ⟨b, 0, none⟩) ∧ H ≤ b ∧ W.heap[b]? = some (.cells #[.int .i64 0, .slice none 0 0] 47 (0, 0))
theorem copyR_ext {H : Nat} {L : List Key} (v : Value) (w w' : World) (hE : Ext w w') (h : CopyR H L v w) : CopyR H L v w' := by
  obtain ⟨c, F', h1, h2, h3⟩ := h; exact ⟨c, F', h1, st_ext h2 hE, h3⟩
theorem boxR_ext {H : Nat} (v : Value) (w w' : World) (hE : Ext w w') (h : BoxR H v w) : BoxR H v w' := by
  obtain ⟨b, h1, h2, h3⟩ := h; exact ⟨b, h1, h2, (ext_block hE (block_lt h3)).trans h3⟩

set_option maxRecDepth 100000 in
set_option maxHeartbeats 4000000 in
theorem copies_row (A0 : Option Addr) (cap : Nat) (acts : List ActV) (A1 : Option Addr) (cap1 : Nat) (acts1 : List ActV) (w : World) (hL : Laid w) (hA : acts ≠ [] → ∃ b off, A0 = some ⟨b, off, none⟩ ∧ ActsIn w b off acts) (hA1 : acts1 ≠ [] → ∃ b off, A1 = some ⟨b, off, none⟩ ∧ ActsIn w b off acts1) (hn : acts.length ≤ 30) (hm : acts1.length ≤ 30) :
    Calls Tryd.prog 8 #[.slice A0 acts.length cap, .slice A1 acts1.length cap1] w fun e w' => e = .returned (.bool true) ∧ Ext w w' := by
  have HL := Lib.hid hL
  have HA := Lib.hid hA
  have HA1 := Lib.hid hA1
  clear hL hA hA1
  have hn' : ¬ 30 < acts.length := by omega
  have hm' : ¬ 30 < acts1.length := by omega
  have hn2 : (acts.length : Int) ≤ 30 := by omega
  have hm2 : (acts1.length : Int) ≤ 30 := by omega
  go_enter Tryd.func8, Tryd.ntmps8
  go_wp2_with (first
    | (go_at_call 9; refine (awake_any _ HL.out).mono ?_; rintro e w1 ⟨rfl, hE⟩; have HE := Lib.hid hE; clear hE)
    | (go_at_call 15; refine (new_ok 50 (by decide) (by decide) _).mono ?_; rintro e w2 ⟨rfl, rfl⟩))
  clear hn' hm'
  have HW1 := Lib.hid (show 1 < w1.heap.size from Nat.lt_of_lt_of_le HL.out.1 (ext_size HE.out))
  refine wp_gen (fun W hW => ?_)
  have HI : Hid (Env w w1.heap.size (w1.heap.size + 1) 50 [] [] (.slice none 0 0) (fpS w1.heap.size nilV) [] W) := Lib.hid (by
    rw [hW]
    have hm := heap_alloc_new (w1.alloc (.cells #[.slice none 0 0, .slice none 0 0, .slice none 0 0, .int .i64 50] 65)) (.cells #[.int .i64 50, .slice none 0 0] 47)
    rw [World.size_alloc] at hm
    have hE2 : Ext w1 ((w1.alloc (.cells #[.slice none 0 0, .slice none 0 0, .slice none 0 0, .int .i64 50] 65)).alloc (.cells #[.int .i64 50, .slice none 0 0] 47)) := ext_alloc (ext_alloc (ext_refl _) _) _
    exact ⟨st_ext (st_new w1 50 HW1.out) (ext_alloc (ext_refl _) _), World.ownsRow_nil _ _ _ _, hm, boxes_nil, ext_trans HE.out hE2, low_new (ext_size HE.out), Nat.le_succ_of_le (ext_size HE.out)⟩)
  clear hW
  go_loopw [36] (fun x wr => ∃ (j : Nat) (L : List Key) (A : Option Addr) (c : Nat) (F : Nat → Prop), j ≤ acts.length ∧ x = .int .i64 j ∧ L.length ≤ j ∧ Env w w1.heap.size (w1.heap.size + 1) 50 L L (.slice A L.length c) F [] wr) (fun x _ => acts.length - (intOf x).toNat)
  case atStart => exact ⟨0, [], none, 0, _, by omega, rfl, by simp, HI.out⟩
  case round =>
    obtain ⟨j, L, A, c, F, hj, rfl, hlen, hI⟩ := hrel
    have HJ := Lib.hid hI
    clear hI
    by_cases hlt : j < acts.length
    · have hji : (j : Int) < (acts.length : Int) := by omega
      have hj0 : (0 : Int) ≤ (j : Int) := by omega
      obtain ⟨x, hx⟩ : ∃ x, acts[j]? = some x := ⟨_, List.getElem?_eq_getElem hlt⟩
      obtain ⟨b, off, hA0, hAI⟩ := HA.out (fun e => by rw [e] at hlt; simp at hlt)
      subst hA0
      obtain ⟨⟨a0, a1, a2, a3, a4⟩, x1, x2, x3, x4⟩ := hAI.2 j x hx
      have hbw := hAI.1
      replace a0 := (ext_cell HJ.out.ext _ _ hbw).trans a0
      replace a1 := (ext_cell HJ.out.ext _ _ hbw).trans a1
      replace a2 := (ext_cell HJ.out.ext _ _ hbw).trans a2
      replace a3 := (ext_cell HJ.out.ext _ _ hbw).trans a3
      replace a4 := (ext_cell HJ.out.ext _ _ hbw).trans a4
      have HX := Lib.hid hx
      have lb := ext_lt HJ.out.ext hbw
      clear hx hbw hAI
      go_wp2_with (first
        | (go_at_call 16; have hM := env_push (env_ext HJ.out (ext_alloc (ext_refl wr) (.cells (actCells x) 39))) (heap_alloc_new wr (.cells (actCells x) 39)) (by decide) (by decide) (by decide); refine (sto_add x.key (laid_ext HL.out hM.ext) hM.st (by omega)).mono ?_; rintro e w3 ⟨rfl, hW3⟩; obtain ⟨F3, hM3⟩ := env_wrote hM hW3; have HM3 := Lib.hid hM3; clear hM hW3 hM3; have n0 : w3.cell? ⟨w1.heap.size + 1, 0, none⟩ = some (.int .i64 50) := block_cell HM3.out.m 0; have n1 : w3.cell? ⟨w1.heap.size + 1, 1, none⟩ = some (.slice A L.length c) := block_cell HM3.out.m 1; have y2 : w3.cell? ⟨wr.heap.size, 2, none⟩ = some (.int .i64 x.key.a) := block_cell (boxes_head HM3.out.boxes) 2; have y3 : w3.cell? ⟨wr.heap.size, 3, none⟩ = some (.int .i64 x.key.b) := block_cell (boxes_head HM3.out.boxes) 3; have y4 : w3.cell? ⟨wr.heap.size, 4, none⟩ = some (.int .i64 x.key.c) := block_cell (boxes_head HM3.out.boxes) 4; have lm3 := block_lt HM3.out.m; have lx3 := block_lt (boxes_head HM3.out.boxes))
        | (go_at_call 20; refine (refadd_any 50 _ L x.key _ HM3.out.row (by omega)).mono ?_; rintro e w4 ⟨lv4, rfl, hr4, hE4⟩; obtain ⟨A4, c4, rfl⟩ := rowL_form hr4; have HR4 := Lib.hid hr4; have hM4 := env_ext HM3.out hE4; have HM4 := Lib.hid hM4; clear hr4 hE4 hM4; have z0 := block_frozen HM4.out.m 0; have z1 := block_frozen HM4.out.m 1; have n0 : w4.cell? ⟨w1.heap.size + 1, 0, none⟩ = some (.int .i64 50) := block_cell HM4.out.m 0; have n1 : w4.cell? ⟨w1.heap.size + 1, 1, none⟩ = some (.slice A L.length c) := block_cell HM4.out.m 1; have lm4 := block_lt HM4.out.m))
      have hM5 := env_pop (env_put HM4.out HR4.out)
      have HM5 := Lib.hid hM5
      clear hM5
      go_roundw
      case rel => exact ⟨j + 1, _, A4, c4, F3, by omega, by go_num, Nat.le_trans (addL_length 50 L x.key) (by omega), HM5.out⟩
      case measure => simp [intOf]; omega
    · obtain rfl : j = acts.length := by omega
      have n0 : wr.cell? ⟨w1.heap.size + 1, 0, none⟩ = some (.int .i64 50) := block_cell HJ.out.m 0
      have n1 : wr.cell? ⟨w1.heap.size + 1, 1, none⟩ = some (.slice A L.length c) := block_cell HJ.out.m 1
      have lm := block_lt HJ.out.m
      have hgc := cell_grown
      go_wp2
      refine wp_region_gen [] [0, 2] [(1, CopyR wr.heap.size L), (3, BoxR wr.heap.size), (4, CopyR wr.heap.size L)] [5] [1, 3, 4] rfl (by kernel_rfl) (by kernel_rfl) (fun _ _ d _ _ h => by cases d <;> exact h) ?_
      refine wpPre_nil ?_
      repeat (refine wpLoose_step rfl (fun K hK => ?_); (try simp only [Oper.quietAt, Oper.quietUpon]); go_simp; (refine hK _ ?_; clear hK K))
      refine wpLoose_nil ?_
      refine wpGen_step rfl rfl copyR_ext (fun w6 hE6 hS6 => ?_) (fun v1 => ?_)
      · simp only [runsAt]
        go_simp
        refine (copy_any (st_ext HJ.out.st hE6) (by omega)).mono ?_
        rintro e w7 ⟨c2, F2, rfl, h1, h2, h3⟩
        exact ⟨_, rfl, h2, c2, F2, rfl, h1, fun b hb => Nat.le_trans (ext_size hE6) (h3 b hb)⟩
      refine wpGen_step rfl rfl boxR_ext (fun w6 hE6 hS6 => ?_) (fun v3 => ?_)
      · simp only [runsAt]
        go_simp
        exact ⟨ext_alloc (ext_refl _) _, _, rfl, ext_size hE6, heap_alloc_new w6 _⟩
      refine wpGen_step rfl rfl copyR_ext (fun w6 hE6 hS6 => ?_) (fun v4 => ?_)
      · simp only [runsAt]
        go_simp
        exact ⟨ext_refl _, hS6 _ (List.mem_cons_of_mem _ (List.mem_cons_self ..)) (by kernel_rfl)⟩
      refine wpGen_nil (fun w8 hE8 hS8 => ?_)
      obtain ⟨c2, F2, hv4, hs2, hf2⟩ := hS8 _ (List.mem_cons_self ..)
      obtain ⟨bn, hv3, hbn, hbb⟩ := hS8 _ (List.mem_cons_of_mem _ (List.mem_cons_self ..))
      subst hv4 hv3
      have HQ : Hid (Env2 w w1.heap.size c2 (w1.heap.size + 1) bn L L L L (.slice A L.length c) (.slice A L.length c) F F2 [] ((w8.setCell ⟨bn, 0, none⟩ (.int .i64 50)).setCell ⟨bn, 1, none⟩ (.slice A L.length c))) := Lib.hid (env2_make HJ.out hE8 hs2 hf2 hbn hbb)
      have HBB := Lib.hid hbb
      clear hS8 n0 n1 lm hgc hs2 hf2 hbn hbb hE8
      have z0 := block_frozen HBB.out 0
      have z1 := block_frozen HBB.out 1
      have n0 : w8.cell? ⟨bn, 0, none⟩ = some (.int .i64 0) := block_cell HBB.out 0
      have n1 : w8.cell? ⟨bn, 1, none⟩ = some (.slice none 0 0) := block_cell HBB.out 1
      have lb8 := block_lt HBB.out
      refine wpSeq_of_list [5] [_] _ _ rfl ?_
      go_wp2
      clear z0 z1 n0 n1 lb8
      refine wp_gen (fun W9 hW9 => ?_)
      rw [← hW9] at HQ
      clear hW9
      go_loopw [59] (fun x wq => ∃ (j : Nat) (L1 L2 : List Key) (B1 : Option Addr) (d1 : Nat) (B2 : Option Addr) (d2 : Nat) (G1 G2 : Nat → Prop), j ≤ acts1.length ∧ x = .int .i64 j ∧ L1.length ≤ 30 + j ∧ L2.length ≤ 30 + j ∧ Env2 w w1.heap.size c2 (w1.heap.size + 1) bn L1 L2 L1 L2 (.slice B1 L1.length d1) (.slice B2 L2.length d2) G1 G2 [] wq) (fun x _ => acts1.length - (intOf x).toNat)
      case atStart => exact ⟨0, L, L, A, c, A, c, F, F2, by omega, rfl, by omega, by omega, HQ.out⟩
      case round =>
        rename World => wq
        obtain ⟨j, L1, L2, B1, d1, B2, d2, G1, G2, hj1, rfl, hl1, hl2, hI2⟩ := hrel
        have HT := Lib.hid hI2
        clear hI2
        by_cases hlt1 : j < acts1.length
        · have hji : (j : Int) < (acts1.length : Int) := by omega
          have hj0 : (0 : Int) ≤ (j : Int) := by omega
          obtain ⟨x, hx⟩ : ∃ x, acts1[j]? = some x := ⟨_, List.getElem?_eq_getElem hlt1⟩
          obtain ⟨b, off, hA0, hAI⟩ := HA1.out (fun e => by rw [e] at hlt1; simp at hlt1)
          subst hA0
          obtain ⟨⟨a0, a1, a2, a3, a4⟩, x1, x2, x3, x4⟩ := hAI.2 j x hx
          have hbw := hAI.1
          replace a0 := (ext_cell HT.out.ext _ _ hbw).trans a0
          replace a1 := (ext_cell HT.out.ext _ _ hbw).trans a1
          replace a2 := (ext_cell HT.out.ext _ _ hbw).trans a2
          replace a3 := (ext_cell HT.out.ext _ _ hbw).trans a3
          replace a4 := (ext_cell HT.out.ext _ _ hbw).trans a4
          have HX := Lib.hid hx
          have lb := ext_lt HT.out.ext hbw
          clear hx hbw hAI
          have hbm1 := block_lt HT.out.m1
          have hbn1 := block_lt HT.out.m2
          have hbmn := HT.out.ne
          have hx1 : wq.heap.size ≠ w1.heap.size + 1 := by omega
          have hx2 : w1.heap.size + 1 ≠ wq.heap.size := by omega
          have hx3 : wq.heap.size ≠ bn := by omega
          have hx4 : bn ≠ wq.heap.size := by omega
          have hk : (j : Int) % 2 = 0 ∨ (j : Int) % 2 = 1 := by omega
          rcases hk with hk | hk
          · go_wp2_with (first
              | (go_at_call 16; have hM := env2_push (env2_ext HT.out (ext_alloc (ext_refl wq) (.cells (actCells x) 39))) (heap_alloc_new wq (.cells (actCells x) 39)) (by decide) (by decide) (by decide); refine (sto_add x.key (laid_ext HL.out hM.ext) hM.st1 (by omega)).mono ?_; rintro e w3 ⟨rfl, hW3⟩; obtain ⟨F3, hM3⟩ := env2_wrote hM hW3; have HM3 := Lib.hid hM3; clear hM hW3 hM3; have y2 : w3.cell? ⟨wq.heap.size, 2, none⟩ = some (.int .i64 x.key.a) := block_cell (boxes_head HM3.out.boxes) 2; have y3 : w3.cell? ⟨wq.heap.size, 3, none⟩ = some (.int .i64 x.key.b) := block_cell (boxes_head HM3.out.boxes) 3; have y4 : w3.cell? ⟨wq.heap.size, 4, none⟩ = some (.int .i64 x.key.c) := block_cell (boxes_head HM3.out.boxes) 4; have lx_w3 := block_lt (boxes_head HM3.out.boxes); have n0 : w3.cell? ⟨w1.heap.size + 1, 0, none⟩ = some (.int .i64 50) := block_cell HM3.out.m1 0; have n1 : w3.cell? ⟨w1.heap.size + 1, 1, none⟩ = some (.slice B1 L1.length d1) := block_cell HM3.out.m1 1; have zm0 := block_frozen HM3.out.m1 0; have zm1 := block_frozen HM3.out.m1 1; have lm_w3 := block_lt HM3.out.m1)
              | (go_at_call 20; refine (refadd_any 50 _ L1 x.key _ HM3.out.row1 (by omega)).mono ?_; rintro e w4 ⟨lv4, rfl, hr4, hE4⟩; obtain ⟨A4, c4, rfl⟩ := rowL_form hr4; have HR4 := Lib.hid hr4; have hM4 := env2_ext HM3.out hE4; have HM4 := Lib.hid hM4; clear hr4 hE4 hM4 y2 y3 y4 n0 n1 zm0 zm1; have y2 : w4.cell? ⟨wq.heap.size, 2, none⟩ = some (.int .i64 x.key.a) := block_cell (boxes_head HM4.out.boxes) 2; have y3 : w4.cell? ⟨wq.heap.size, 3, none⟩ = some (.int .i64 x.key.b) := block_cell (boxes_head HM4.out.boxes) 3; have y4 : w4.cell? ⟨wq.heap.size, 4, none⟩ = some (.int .i64 x.key.c) := block_cell (boxes_head HM4.out.boxes) 4; have lx_w4 := block_lt (boxes_head HM4.out.boxes); have n0 : w4.cell? ⟨w1.heap.size + 1, 0, none⟩ = some (.int .i64 50) := block_cell HM4.out.m1 0; have n1 : w4.cell? ⟨w1.heap.size + 1, 1, none⟩ = some (.slice B1 L1.length d1) := block_cell HM4.out.m1 1; have zm0 := block_frozen HM4.out.m1 0; have zm1 := block_frozen HM4.out.m1 1; have lm_w4 := block_lt HM4.out.m1)
              | (go_at_call 24; have hM5 := env2_put HM4.out HR4.out; refine (sto_remove x.key (laid_ext HL.out hM5.ext) hM5.st2 (by omega)).mono ?_; rintro e w6 ⟨rfl, hW6⟩; obtain ⟨F6, hM6⟩ := env2_wrote (env2_swap hM5) hW6; have HM6 := Lib.hid (env2_swap hM6); clear hM5 hW6 hM6 y2 y3 y4 n0 n1 zm0 zm1; have y2 : w6.cell? ⟨wq.heap.size, 2, none⟩ = some (.int .i64 x.key.a) := block_cell (boxes_head HM6.out.boxes) 2; have y3 : w6.cell? ⟨wq.heap.size, 3, none⟩ = some (.int .i64 x.key.b) := block_cell (boxes_head HM6.out.boxes) 3; have y4 : w6.cell? ⟨wq.heap.size, 4, none⟩ = some (.int .i64 x.key.c) := block_cell (boxes_head HM6.out.boxes) 4; have lx_w6 := block_lt (boxes_head HM6.out.boxes); have k0 : w6.cell? ⟨bn, 0, none⟩ = some (.int .i64 50) := block_cell HM6.out.m2 0; have k1 : w6.cell? ⟨bn, 1, none⟩ = some (.slice B2 L2.length d2) := block_cell HM6.out.m2 1; have zn0 := block_frozen HM6.out.m2 0; have zn1 := block_frozen HM6.out.m2 1; have ln_w6 := block_lt HM6.out.m2)
              | (go_at_call 23; refine (refremove_any 50 _ L2 x.key _ HM6.out.row2 (by omega)).mono ?_; rintro e w7 ⟨lv7, rfl, hr7, hE7⟩; obtain ⟨A7, c7, rfl⟩ := rowL_form hr7; have HR7 := Lib.hid hr7; have hM7 := env2_ext HM6.out hE7; have HM7 := Lib.hid hM7; clear hr7 hE7 hM7 y2 y3 y4 k0 k1 zn0 zn1; have k0 : w7.cell? ⟨bn, 0, none⟩ = some (.int .i64 50) := block_cell HM7.out.m2 0; have k1 : w7.cell? ⟨bn, 1, none⟩ = some (.slice B2 L2.length d2) := block_cell HM7.out.m2 1; have zn0 := block_frozen HM7.out.m2 0; have zn1 := block_frozen HM7.out.m2 1; have ln_w7 := block_lt HM7.out.m2))
            have HM8 := Lib.hid (env2_pop (env2_swap (env2_put (env2_swap HM7.out) HR7.out)))
            go_roundw
            case rel => exact ⟨j + 1, _, _, A4, c4, A7, c7, F3, F6, by omega, by go_num, Nat.le_trans (addL_length 50 L1 x.key) (by omega), Nat.le_trans (remL_length L2 x.key) (by omega), HM8.out⟩
            case measure => simp [intOf]; omega
          · go_wp2_with (first
              | (go_at_call 24; have hM := env2_push (env2_ext HT.out (ext_alloc (ext_refl wq) (.cells (actCells x) 39))) (heap_alloc_new wq (.cells (actCells x) 39)) (by decide) (by decide) (by decide); refine (sto_remove x.key (laid_ext HL.out hM.ext) hM.st1 (by omega)).mono ?_; rintro e w3 ⟨rfl, hW3⟩; obtain ⟨F3, hM3⟩ := env2_wrote hM hW3; have HM3 := Lib.hid hM3; clear hM hW3 hM3; have y2 : w3.cell? ⟨wq.heap.size, 2, none⟩ = some (.int .i64 x.key.a) := block_cell (boxes_head HM3.out.boxes) 2; have y3 : w3.cell? ⟨wq.heap.size, 3, none⟩ = some (.int .i64 x.key.b) := block_cell (boxes_head HM3.out.boxes) 3; have y4 : w3.cell? ⟨wq.heap.size, 4, none⟩ = some (.int .i64 x.key.c) := block_cell (boxes_head HM3.out.boxes) 4; have lx_w3 := block_lt (boxes_head HM3.out.boxes); have n0 : w3.cell? ⟨w1.heap.size + 1, 0, none⟩ = some (.int .i64 50) := block_cell HM3.out.m1 0; have n1 : w3.cell? ⟨w1.heap.size + 1, 1, none⟩ = some (.slice B1 L1.length d1) := block_cell HM3.out.m1 1; have zm0 := block_frozen HM3.out.m1 0; have zm1 := block_frozen HM3.out.m1 1; have lm_w3 := block_lt HM3.out.m1)
              | (go_at_call 23; refine (refremove_any 50 _ L1 x.key _ HM3.out.row1 (by omega)).mono ?_; rintro e w4 ⟨lv4, rfl, hr4, hE4⟩; obtain ⟨A4, c4, rfl⟩ := rowL_form hr4; have HR4 := Lib.hid hr4; have hM4 := env2_ext HM3.out hE4; have HM4 := Lib.hid hM4; clear hr4 hE4 hM4 y2 y3 y4 n0 n1 zm0 zm1; have y2 : w4.cell? ⟨wq.heap.size, 2, none⟩ = some (.int .i64 x.key.a) := block_cell (boxes_head HM4.out.boxes) 2; have y3 : w4.cell? ⟨wq.heap.size, 3, none⟩ = some (.int .i64 x.key.b) := block_cell (boxes_head HM4.out.boxes) 3; have y4 : w4.cell? ⟨wq.heap.size, 4, none⟩ = some (.int .i64 x.key.c) := block_cell (boxes_head HM4.out.boxes) 4; have lx_w4 := block_lt (boxes_head HM4.out.boxes); have n0 : w4.cell? ⟨w1.heap.size + 1, 0, none⟩ = some (.int .i64 50) := block_cell HM4.out.m1 0; have n1 : w4.cell? ⟨w1.heap.size + 1, 1, none⟩ = some (.slice B1 L1.length d1) := block_cell HM4.out.m1 1; have zm0 := block_frozen HM4.out.m1 0; have zm1 := block_frozen HM4.out.m1 1; have lm_w4 := block_lt HM4.out.m1)
              | (go_at_call 16; have hM5 := env2_put HM4.out HR4.out; refine (sto_add x.key (laid_ext HL.out hM5.ext) hM5.st2 (by omega)).mono ?_; rintro e w6 ⟨rfl, hW6⟩; obtain ⟨F6, hM6⟩ := env2_wrote (env2_swap hM5) hW6; have HM6 := Lib.hid (env2_swap hM6); clear hM5 hW6 hM6 y2 y3 y4 n0 n1 zm0 zm1; have y2 : w6.cell? ⟨wq.heap.size, 2, none⟩ = some (.int .i64 x.key.a) := block_cell (boxes_head HM6.out.boxes) 2; have y3 : w6.cell? ⟨wq.heap.size, 3, none⟩ = some (.int .i64 x.key.b) := block_cell (boxes_head HM6.out.boxes) 3; have y4 : w6.cell? ⟨wq.heap.size, 4, none⟩ = some (.int .i64 x.key.c) := block_cell (boxes_head HM6.out.boxes) 4; have lx_w6 := block_lt (boxes_head HM6.out.boxes); have k0 : w6.cell? ⟨bn, 0, none⟩ = some (.int .i64 50) := block_cell HM6.out.m2 0; have k1 : w6.cell? ⟨bn, 1, none⟩ = some (.slice B2 L2.length d2) := block_cell HM6.out.m2 1; have zn0 := block_frozen HM6.out.m2 0; have zn1 := block_frozen HM6.out.m2 1; have ln_w6 := block_lt HM6.out.m2)
              | (go_at_call 20; refine (refadd_any 50 _ L2 x.key _ HM6.out.row2 (by omega)).mono ?_; rintro e w7 ⟨lv7, rfl, hr7, hE7⟩; obtain ⟨A7, c7, rfl⟩ := rowL_form hr7; have HR7 := Lib.hid hr7; have hM7 := env2_ext HM6.out hE7; have HM7 := Lib.hid hM7; clear hr7 hE7 hM7 y2 y3 y4 k0 k1 zn0 zn1; have k0 : w7.cell? ⟨bn, 0, none⟩ = some (.int .i64 50) := block_cell HM7.out.m2 0; have k1 : w7.cell? ⟨bn, 1, none⟩ = some (.slice B2 L2.length d2) := block_cell HM7.out.m2 1; have zn0 := block_frozen HM7.out.m2 0; have zn1 := block_frozen HM7.out.m2 1; have ln_w7 := block_lt HM7.out.m2))
            have HM8 := Lib.hid (env2_pop (env2_swap (env2_put (env2_swap HM7.out) HR7.out)))
            go_roundw
            case rel => exact ⟨j + 1, _, _, A4, c4, A7, c7, F3, F6, by omega, by go_num, Nat.le_trans (remL_length L1 x.key) (by omega), Nat.le_trans (addL_length 50 L2 x.key) (by omega), HM8.out⟩
            case measure => simp [intOf]; omega
        · obtain rfl : j = acts1.length := by omega
          go_wp2
          go_loopw [117] (fun x wz => Ext wq wz ∧ (x = .int .i64 0 ∨ x = .int .i64 1 ∨ x = .int .i64 2 ∨ x = .int .i64 3 ∨ x = .int .i64 4)) (fun x _ => 4 - (intOf x).toNat)
          case atStart => exact ⟨ext_refl _, .inl rfl⟩
          case round =>
            rename World => wz
            obtain ⟨hEz, hx⟩ := hrel
            have HEz := Lib.hid hEz
            have HV := Lib.hid (env2_ext HT.out hEz)
            clear hEz
            have n0 : wz.cell? ⟨w1.heap.size + 1, 0, none⟩ = some (.int .i64 50) := block_cell HV.out.m1 0
            have n1 : wz.cell? ⟨w1.heap.size + 1, 1, none⟩ = some (.slice B1 L1.length d1) := block_cell HV.out.m1 1
            have lm := block_lt HV.out.m1
            rcases hx with rfl | rfl | rfl | rfl | rfl
            · have ix := ix58_0
              go_wp2_with (first
                | (go_at_call 25; have hU := env2_push (env2_ext HV.out (ext_alloc (ext_refl wz) (.cells #[.int .i64 (-1), .int .i64 (-1), .int .i64 (-1)] 22))) (heap_alloc_new wz (.cells #[.int .i64 (-1), .int .i64 (-1), .int .i64 (-1)] 22)) (by decide) (by decide) (by decide); (with_reducible refine (scanned_any _ ⟨-1, -1, -1⟩ 1000 _ (laid_ext HL.out hU.ext) hU.st1 hU.row1 (by omega)).mono ?_); rintro e w5 ⟨rfl, hE5⟩; have HU5 := Lib.hid (env2_ext hU hE5); have HE5 := Lib.hid (ext_trans (ext_alloc (ext_refl wz) (.cells #[.int .i64 (-1), .int .i64 (-1), .int .i64 (-1)] 22)) hE5); clear hU hE5; have k0 : w5.cell? ⟨bn, 0, none⟩ = some (.int .i64 50) := block_cell HU5.out.m2 0; have k1 : w5.cell? ⟨bn, 1, none⟩ = some (.slice B2 L2.length d2) := block_cell HU5.out.m2 1; have q0 : w5.cell? ⟨wz.heap.size, 0, none⟩ = some (.int .i64 (-1)) := block_cell (boxes_head HU5.out.boxes) 0; have q1 : w5.cell? ⟨wz.heap.size, 1, none⟩ = some (.int .i64 (-1)) := block_cell (boxes_head HU5.out.boxes) 1; have q2 : w5.cell? ⟨wz.heap.size, 2, none⟩ = some (.int .i64 (-1)) := block_cell (boxes_head HU5.out.boxes) 2; have ln5 := block_lt HU5.out.m2; have lq5 := block_lt (boxes_head HU5.out.boxes))
                | (go_at_call 25; refine (scanned_any _ ⟨-1, -1, -1⟩ 1000 _ (laid_ext HL.out HU5.out.ext) HU5.out.st2 HU5.out.row2 (by omega)).mono ?_; rintro e w6 ⟨rfl, hE6⟩; have HE6 := Lib.hid hE6; clear hE6))
              go_roundw
              case rel => exact ⟨ext_trans HEz.out (ext_trans HE5.out HE6.out), .inr (.inl rfl)⟩
              case measure => simp [intOf]
            · have ix := ix58_1
              go_wp2_with (first
                | (go_at_call 25; have hU := env2_push (env2_ext HV.out (ext_alloc (ext_refl wz) (.cells #[.int .i64 (1), .int .i64 (-1), .int .i64 (-1)] 22))) (heap_alloc_new wz (.cells #[.int .i64 (1), .int .i64 (-1), .int .i64 (-1)] 22)) (by decide) (by decide) (by decide); (with_reducible refine (scanned_any _ ⟨1, -1, -1⟩ 1000 _ (laid_ext HL.out hU.ext) hU.st1 hU.row1 (by omega)).mono ?_); rintro e w5 ⟨rfl, hE5⟩; have HU5 := Lib.hid (env2_ext hU hE5); have HE5 := Lib.hid (ext_trans (ext_alloc (ext_refl wz) (.cells #[.int .i64 (1), .int .i64 (-1), .int .i64 (-1)] 22)) hE5); clear hU hE5; have k0 : w5.cell? ⟨bn, 0, none⟩ = some (.int .i64 50) := block_cell HU5.out.m2 0; have k1 : w5.cell? ⟨bn, 1, none⟩ = some (.slice B2 L2.length d2) := block_cell HU5.out.m2 1; have q0 : w5.cell? ⟨wz.heap.size, 0, none⟩ = some (.int .i64 (1)) := block_cell (boxes_head HU5.out.boxes) 0; have q1 : w5.cell? ⟨wz.heap.size, 1, none⟩ = some (.int .i64 (-1)) := block_cell (boxes_head HU5.out.boxes) 1; have q2 : w5.cell? ⟨wz.heap.size, 2, none⟩ = some (.int .i64 (-1)) := block_cell (boxes_head HU5.out.boxes) 2; have ln5 := block_lt HU5.out.m2; have lq5 := block_lt (boxes_head HU5.out.boxes))
                | (go_at_call 25; refine (scanned_any _ ⟨1, -1, -1⟩ 1000 _ (laid_ext HL.out HU5.out.ext) HU5.out.st2 HU5.out.row2 (by omega)).mono ?_; rintro e w6 ⟨rfl, hE6⟩; have HE6 := Lib.hid hE6; clear hE6))
              go_roundw
              case rel => exact ⟨ext_trans HEz.out (ext_trans HE5.out HE6.out), .inr (.inr (.inl rfl))⟩
              case measure => simp [intOf]
            · have ix := ix58_2
              go_wp2_with (first
                | (go_at_call 25; have hU := env2_push (env2_ext HV.out (ext_alloc (ext_refl wz) (.cells #[.int .i64 (-1), .int .i64 (1), .int .i64 (-1)] 22))) (heap_alloc_new wz (.cells #[.int .i64 (-1), .int .i64 (1), .int .i64 (-1)] 22)) (by decide) (by decide) (by decide); (with_reducible refine (scanned_any _ ⟨-1, 1, -1⟩ 1000 _ (laid_ext HL.out hU.ext) hU.st1 hU.row1 (by omega)).mono ?_); rintro e w5 ⟨rfl, hE5⟩; have HU5 := Lib.hid (env2_ext hU hE5); have HE5 := Lib.hid (ext_trans (ext_alloc (ext_refl wz) (.cells #[.int .i64 (-1), .int .i64 (1), .int .i64 (-1)] 22)) hE5); clear hU hE5; have k0 : w5.cell? ⟨bn, 0, none⟩ = some (.int .i64 50) := block_cell HU5.out.m2 0; have k1 : w5.cell? ⟨bn, 1, none⟩ = some (.slice B2 L2.length d2) := block_cell HU5.out.m2 1; have q0 : w5.cell? ⟨wz.heap.size, 0, none⟩ = some (.int .i64 (-1)) := block_cell (boxes_head HU5.out.boxes) 0; have q1 : w5.cell? ⟨wz.heap.size, 1, none⟩ = some (.int .i64 (1)) := block_cell (boxes_head HU5.out.boxes) 1; have q2 : w5.cell? ⟨wz.heap.size, 2, none⟩ = some (.int .i64 (-1)) := block_cell (boxes_head HU5.out.boxes) 2; have ln5 := block_lt HU5.out.m2; have lq5 := block_lt (boxes_head HU5.out.boxes))
                | (go_at_call 25; refine (scanned_any _ ⟨-1, 1, -1⟩ 1000 _ (laid_ext HL.out HU5.out.ext) HU5.out.st2 HU5.out.row2 (by omega)).mono ?_; rintro e w6 ⟨rfl, hE6⟩; have HE6 := Lib.hid hE6; clear hE6))
              go_roundw
              case rel => exact ⟨ext_trans HEz.out (ext_trans HE5.out HE6.out), .inr (.inr (.inr (.inl rfl)))⟩
              case measure => simp [intOf]
            · have ix := ix58_3
              go_wp2_with (first
                | (go_at_call 25; have hU := env2_push (env2_ext HV.out (ext_alloc (ext_refl wz) (.cells #[.int .i64 (-1), .int .i64 (-1), .int .i64 (1)] 22))) (heap_alloc_new wz (.cells #[.int .i64 (-1), .int .i64 (-1), .int .i64 (1)] 22)) (by decide) (by decide) (by decide); (with_reducible refine (scanned_any _ ⟨-1, -1, 1⟩ 1000 _ (laid_ext HL.out hU.ext) hU.st1 hU.row1 (by omega)).mono ?_); rintro e w5 ⟨rfl, hE5⟩; have HU5 := Lib.hid (env2_ext hU hE5); have HE5 := Lib.hid (ext_trans (ext_alloc (ext_refl wz) (.cells #[.int .i64 (-1), .int .i64 (-1), .int .i64 (1)] 22)) hE5); clear hU hE5; have k0 : w5.cell? ⟨bn, 0, none⟩ = some (.int .i64 50) := block_cell HU5.out.m2 0; have k1 : w5.cell? ⟨bn, 1, none⟩ = some (.slice B2 L2.length d2) := block_cell HU5.out.m2 1; have q0 : w5.cell? ⟨wz.heap.size, 0, none⟩ = some (.int .i64 (-1)) := block_cell (boxes_head HU5.out.boxes) 0; have q1 : w5.cell? ⟨wz.heap.size, 1, none⟩ = some (.int .i64 (-1)) := block_cell (boxes_head HU5.out.boxes) 1; have q2 : w5.cell? ⟨wz.heap.size, 2, none⟩ = some (.int .i64 (1)) := block_cell (boxes_head HU5.out.boxes) 2; have ln5 := block_lt HU5.out.m2; have lq5 := block_lt (boxes_head HU5.out.boxes))
                | (go_at_call 25; refine (scanned_any _ ⟨-1, -1, 1⟩ 1000 _ (laid_ext HL.out HU5.out.ext) HU5.out.st2 HU5.out.row2 (by omega)).mono ?_; rintro e w6 ⟨rfl, hE6⟩; have HE6 := Lib.hid hE6; clear hE6))
              go_roundw
              case rel => exact ⟨ext_trans HEz.out (ext_trans HE5.out HE6.out), .inr (.inr (.inr (.inr rfl)))⟩
              case measure => simp [intOf]
            · go_wp2
              go_ret
              exact ⟨rfl, HV.out.ext⟩
end Go.Proofs.YtfaegjlolhpofaaDoor
