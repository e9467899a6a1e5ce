/- Tree of no nodes. -/
import Derived.Test.YtiabmdboacpmcaaPv
namespace Go.Proofs.Ytiabmdboacpmcaa
open Go Go.RowKit Go.Sort
set_option maxHeartbeats 2000000

set_option maxRecDepth 100000 in
theorem tree_none (A0 : Option Addr) (c0 : Nat) (w : World) : Calls Try.prog 20 #[.slice A0 0 c0] w (TreePost [] w) := by
  obtain ⟨cr, hcr, mr⟩ := make_refs 1 (by omega)
  obtain ⟨cp, hcp, mp⟩ := make_paths 1 (by omega)
  obtain ⟨cs, hcs, ms⟩ := make_ints 1 (by omega)
  rw [show ((1 : Nat) : Int) = 1 from rfl] at mr mp ms
  go_enter Try.func20, Try.ntmps20
  go_wp2_with fail
  obtain ⟨wa, hwa⟩ : ∃ wa, wa = w.alloc (.cells #[.int .i64 0, .int .i64 0, .slice none 0 0] 30) := ⟨_, rfl⟩
  have hza : wa.heap.size = w.heap.size + 1 := by rw [hwa]; simp
  have ha := heap_alloc_new w (.cells #[.int .i64 0, .int .i64 0, .slice none 0 0] 30)
  have hEa := ext_alloc (ext_refl w) (.cells #[.int .i64 0, .int .i64 0, .slice none 0 0] 30)
  rw [← hwa] at ha hEa ⊢
  obtain ⟨wb, hwb⟩ : ∃ wb, wb = wa.alloc (.cells #[.int .i64 0, .int .i64 0, .slice none 0 0] 26) := ⟨_, rfl⟩
  have hzb : wb.heap.size = w.heap.size + 1 + 1 := by rw [hwb]; simp; omega
  have hb := heap_alloc_new wa (.cells #[.int .i64 0, .int .i64 0, .slice none 0 0] 26)
  have hEb := ext_alloc (ext_refl wa) (.cells #[.int .i64 0, .int .i64 0, .slice none 0 0] 26)
  rw [← hwb] at hb hEb ⊢
  obtain ⟨wc, hwc⟩ : ∃ wc, wc = wb.alloc (.cells cr 102) := ⟨_, rfl⟩
  have hzc : wc.heap.size = w.heap.size + 1 + 1 + 1 := by rw [hwc]; simp; omega
  have hc := heap_alloc_new wb (.cells cr 102)
  have hEc := ext_alloc (ext_refl wb) (.cells cr 102)
  rw [← hwc] at hc hEc ⊢
  obtain ⟨wd, hwd⟩ : ∃ wd, wd = wc.alloc (.cells cp 30) := ⟨_, rfl⟩
  have hzd : wd.heap.size = w.heap.size + 1 + 1 + 1 + 1 := by rw [hwd]; simp; omega
  have hd := heap_alloc_new wc (.cells cp 30)
  have hEd := ext_alloc (ext_refl wc) (.cells cp 30)
  rw [← hwd] at hd hEd ⊢
  obtain ⟨we, hwe⟩ : ∃ we, we = wd.alloc (.cells cs 3) := ⟨_, rfl⟩
  have hze : we.heap.size = w.heap.size + 1 + 1 + 1 + 1 + 1 := by rw [hwe]; simp; omega
  have he := heap_alloc_new wd (.cells cs 3)
  have hEe := ext_alloc (ext_refl wd) (.cells cs 3)
  rw [← hwe] at he hEe ⊢
  rw [hza] at hb
  rw [hzb] at hc
  rw [hzc] at hd
  rw [hzd] at he
  have ha' := (ext_block (ext_trans hEb (ext_trans hEc (ext_trans hEd hEe))) (block_lt ha)).trans ha
  have hb' := (ext_block (ext_trans hEc (ext_trans hEd hEe)) (block_lt hb)).trans hb
  have hc' := (ext_block (ext_trans hEd hEe) (block_lt hc)).trans hc
  have hd' := (ext_block hEe (block_lt hd)).trans hd
  have hEw := ext_trans hEa (ext_trans hEb (ext_trans hEc (ext_trans hEd hEe)))
  obtain ⟨bx, hbx⟩ : ∃ bx, bx = w.heap.size := ⟨_, rfl⟩
  obtain ⟨nb, hnb⟩ : ∃ nb, nb = w.heap.size + 1 := ⟨_, rfl⟩
  obtain ⟨rb, hrb⟩ : ∃ rb, rb = w.heap.size + 1 + 1 := ⟨_, rfl⟩
  obtain ⟨pb, hpb⟩ : ∃ pb, pb = w.heap.size + 1 + 1 + 1 := ⟨_, rfl⟩
  obtain ⟨sb, hsb⟩ : ∃ sb, sb = w.heap.size + 1 + 1 + 1 + 1 := ⟨_, rfl⟩
  obtain ⟨lo, hlo⟩ : ∃ lo, lo = we.heap.size := ⟨_, rfl⟩
  have hbw : w.heap.size ≤ bx := by omega
  have o1 : bx < nb := by omega
  have o2 : nb < rb := by omega
  have o3 : rb < pb := by omega
  have o4 : pb < sb := by omega
  have o5 : sb < lo := by omega
  have o6 : lo ≤ we.heap.size := by omega
  rw [← hsb] at he
  rw [← hpb] at hd'
  rw [← hrb] at hc'
  rw [← hnb] at hb'
  rw [← hbx] at ha'
  have R0 := Lib.hid (show Rows3 we rb pb sb 1 lo from ⟨⟨cr, hc', by omega⟩, ⟨cp, hd', by omega⟩, ⟨cs, he, hcs⟩, by omega, by omega, by omega, by omega, by omega, by omega⟩)
  have A0' := Lib.hid ha'
  have B0 := Lib.hid hb'
  have E0 := Lib.hid hEw
  rw [← hsb, ← hpb, ← hrb, ← hnb, ← hbx]
  clear hwa hza ha hEa hwb hzb hb hEb hwc hzc hc hEc hwd hzd hd hEd hwe hze he hEe ha' hb' hc' hd' hEw hbx hnb hrb hpb hsb hlo hcr mr hcp mp hcs ms cr cp cs
  go_loopw [7] (fun x wr => (x = .int .i64 0 ∧ wr = we) ∨ (x = .int .i64 (-1) ∧ RefRow wr rb lo 0 0 0 [] none 0 ∧ PathRow wr pb lo lo 0 0 0 [] none 0 ∧ lo ≤ wr.heap.size ∧ (∃ a b s, wr.heap[bx]? = some (.cells #[a, b, s] 30 (0, 0))) ∧ Ext w wr)) (fun x _ => (intOf x + 1).toNat)
  case atStart => exact .inl ⟨rfl, rfl⟩
  case round =>
    rename World => wo
    rcases hrel with ⟨rfl, hwo⟩ | ⟨rfl, hr, hp, hz, hbo, hE⟩
    · rw [← hwo] at R0 A0' B0 E0 o6
      clear hwo
      obtain ⟨⟨cr, r1, r2⟩, ⟨cp, p1, p2⟩, ⟨cs, s1, s2⟩, -, -, -, -, -, -⟩ := R0.out
      have q0 := block_cell B0.out 0
      have q1 := block_cell B0.out 1
      have q2 := block_cell B0.out 2
      simp at q0 q1 q2
      have lb := block_lt B0.out
      have lr := block_lt r1
      have lp := block_lt p1
      have ls := block_lt s1
      obtain ⟨u0, hu0⟩ : ∃ u, cr[0]? = some u := ⟨_, Array.getElem?_eq_getElem (by omega)⟩
      obtain ⟨u1, hu1⟩ : ∃ u, cr[1]? = some u := ⟨_, Array.getElem?_eq_getElem (by omega)⟩
      obtain ⟨u2, hu2⟩ : ∃ u, cr[2]? = some u := ⟨_, Array.getElem?_eq_getElem (by omega)⟩
      obtain ⟨v0, hv0⟩ : ∃ u, cp[0]? = some u := ⟨_, Array.getElem?_eq_getElem (by omega)⟩
      obtain ⟨v1, hv1⟩ : ∃ u, cp[1]? = some u := ⟨_, Array.getElem?_eq_getElem (by omega)⟩
      obtain ⟨v2, hv2⟩ : ∃ u, cp[2]? = some u := ⟨_, Array.getElem?_eq_getElem (by omega)⟩
      obtain ⟨z0, hz0⟩ : ∃ u, cs[0]? = some u := ⟨_, Array.getElem?_eq_getElem (by omega)⟩
      have e0 := (block_cell r1 0).trans hu0
      have e1 := (block_cell r1 1).trans hu1
      have e2 := (block_cell r1 2).trans hu2
      have e3 := (block_cell p1 0).trans hv0
      have e4 := (block_cell p1 1).trans hv1
      have e5 := (block_cell p1 2).trans hv2
      have e6 := (block_cell s1 0).trans hz0
      have f0 := block_frozen r1 0
      have f1 := block_frozen r1 1
      have f2 := block_frozen r1 2
      have f3 := block_frozen p1 0
      have f4 := block_frozen p1 1
      have f5 := block_frozen p1 2
      have f6 := block_frozen s1 0
      clear r1 r2 p1 p2 s1 s2 hu0 hu1 hu2 hv0 hv1 hv2 hz0
      have hnr : rb ≠ pb := by omega
      have hns : rb ≠ sb := by omega
      have hnp : pb ≠ sb := by omega
      go_wp2_with fail
      obtain ⟨w2, hw2⟩ : ∃ w2, w2 = ((((((((wo.setCell ⟨sb, 0, none⟩ (.int .i64 1)).setCell ⟨rb, 0, none⟩ (.int .i64 0)).setCell ⟨rb, 1, none⟩ (.int .i64 0)).setCell ⟨rb, 2, none⟩ (.slice none 0 0)).setCell ⟨pb, 0, none⟩ (.int .i64 0)).setCell ⟨pb, 1, none⟩ (.int .i64 0)).setCell ⟨pb, 2, none⟩ (.slice none 0 0)).alloc (.cells #[.int .i64 0, .int .i64 0, .slice none 0 0] 26)) := ⟨_, rfl⟩
      obtain ⟨g1, g2, g3, g4, g5, g6, g7⟩ := start_node (k := 0) (T := [.node 0 0 []]) (x0 := 0) (x1 := 0) (A9 := none) (n9 := 0) (c9 := 0) (H := lo) (w := w) (bx := bx) hw2 (fun k t hk ht => by
        have := (List.getElem?_eq_some_iff.1 ht).1
        simp at this
        omega) R0.out (Nat.le_refl _) o6 E0.out hbw (by omega) (by omega) ⟨_, _, _, A0'.out⟩ (by omega)
      rw [← hw2]
      have G3 := Lib.hid g3
      have G4 := Lib.hid g4
      have G6 := Lib.hid g6
      have G7 := Lib.hid g7
      clear g1 g2 g3 g4 g5 g6 g7 hw2 e0 e1 e2 e3 e4 e5 e6 f0 f1 f2 f3 f4 f5 f6 q0 q1 q2 lr lp ls lb
      go_loopw [59] (fun x wr => x = .int .i64 0 ∧ wr = w2) (fun _ _ => 0)
      case atStart => exact ⟨rfl, rfl⟩
      case round =>
        obtain ⟨rfl, rfl⟩ := hrel
        go_wp2
        go_roundw
        case rel => exact .inr ⟨rfl, G3.out, G4.out, G7.out.2, G7.out.1, G6.out⟩
        case measure => simp [intOf]
    · obtain ⟨r1, r2, r3, -⟩ := hr
      obtain ⟨p1, p2, p3, -⟩ := hp
      simp only [Nat.zero_mul, Nat.zero_add, List.map_nil, List.length_nil] at r1 r2 r3 p1 p2 p3
      have lp := World.block_lt_of_cell? _ _ p1
      have R1 := Lib.hid r1
      have R2 := Lib.hid r2
      have R3 := Lib.hid r3
      have HBX := Lib.hid hbo
      have HE := Lib.hid hE
      have hgc := cell_grown
      clear r1 r2 r3 hbo hE
      go_wp2_with fail
      refine wp_region_mix [] [0, 1, 2, 3, 4] [] [5] (by kernel_rfl) (by kernel_rfl) (fun _ _ d _ _ h => by cases d <;> exact h) ?_
      refine wpPre_nil ?_
      repeat (refine wpLoose_step rfl (fun K hK => ?_); (try simp only [Oper.quietAt, Oper.quietUpon]); go_simp; (refine hK _ ?_; clear hK K))
      refine wpLoose_nil (wpFresh_nil (fun w3 hE3 _ => ?_))
      obtain ⟨b0, b1, b2, hb⟩ := HBX.out
      have hb3 := (ext_block hE3 (block_lt hb)).trans hb
      have y0 := block_cell hb3 0
      have y1 := block_cell hb3 1
      have y2 := block_cell hb3 2
      have f0 := block_frozen hb3 0
      have f1 := block_frozen hb3 1
      have f2 := block_frozen hb3 2
      simp at y0 y1 y2
      have lb3 := block_lt hb3
      have HE3 := Lib.hid hE3
      have HB3 := Lib.hid hb3
      clear hE3 hb hb3 hgc p1 p2 p3 lp
      refine wpSeq_of_list [5] [_] _ _ rfl ?_
      go_wp2
      obtain ⟨wF, hwF⟩ : ∃ wF, wF = ((w3.setCell ⟨bx, 0, none⟩ (.int .i64 0)).setCell ⟨bx, 1, none⟩ (.int .i64 0)).setCell ⟨bx, 2, none⟩ (.slice none 0 0) := ⟨_, rfl⟩
      have hbF : wF.heap[bx]? = some (.cells #[.int .i64 0, .int .i64 0, .slice none 0 0] 30 (0, 0)) := by
        rw [hwF, heap_setCell_at (heap_setCell_at (heap_setCell_at HB3.out))]
        rfl
      have huF : Upd (fun b => b = bx) w3 wF := by
        rw [hwF]
        exact upd_trans (upd_trans (upd_setCell (a := ⟨bx, 0, none⟩) _) (upd_setCell (a := ⟨bx, 1, none⟩) _) (fun _ _ h => h)) (upd_setCell (a := ⟨bx, 2, none⟩) _) (fun _ _ h => h)
      have hua : Upd (fun b => b = bx) wo wF := upd_trans (upd_of_ext (fp := fun b => b = bx) HE3.out) huF (fun _ _ h => h)
      rw [← hwF]
      clear hwF y0 y1 y2 f0 f1 f2 lb3
      have c0 := block_cell hbF 0
      have c1 := block_cell hbF 1
      have c2 := block_cell hbF 2
      simp at c0 c1 c2
      refine bodyPost_ret (v := .tuple #[.slice (some ⟨rb, 0, none⟩) 1 1, .agg #[.int .i64 0, .int .i64 0, .slice none 0 0]]) (by simp [results, Try.results20, go_sem, c0, c1, c2]) rfl ?_
      have hsz := hua.size
      have hrl : rb < wo.heap.size := World.block_lt_of_cell? _ _ R1.out
      have hnb : ¬ (rb = bx) := by omega
      refine ⟨rb, 1, lo, lo, .node 0 0 [], _, _, _, rfl, rfl, rfl, ?_, ?_, by omega, Nat.le_refl _, by omega, ?_⟩
      · rw [TR]
        exact ⟨by omega, (upd_cell hua hrl hnb _).trans R1.out, (upd_cell hua hrl hnb _).trans R2.out, none, 0, (upd_cell hua hrl hnb _).trans R3.out, Nat.le_refl _, fun h => absurd rfl h⟩
      · rw [TX]
        exact ⟨rfl, rfl, none, 0, rfl, fun h => absurd rfl h⟩
      · exact ext_of_upd (upd_trans (upd_of_ext (fp := fun _ => False) HE.out) hua (fun i hi e => by omega))
theorem tree_any (v : Value) (L : List Nd) (w : World) (hv : RdNd w v L) (hL : L.length ≤ 60) : Calls Try.prog 20 #[v] w (TreePost L w) := by
  cases L with
  | nil =>
    obtain ⟨A, c, rfl, _⟩ := hv
    exact tree_none A c w
  | cons x r => exact tree_some v _ w hv hL (by simp)
end Go.Proofs.Ytiabmdboacpmcaa
