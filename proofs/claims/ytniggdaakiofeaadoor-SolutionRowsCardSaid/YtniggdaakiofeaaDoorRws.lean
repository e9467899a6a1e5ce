/- SolutionRows: of any table some rows, some vars, each row once, in order, are the document's. Condition: the listed tables of Go's library start as its text lays them (tied by the card). -/
import Derived.Test.YtniggdaakiofeaaDoorSu
import Derived.Test.YtniggdaakiofeaaDoorYd
import Derived.Test.YtniggdaakiofeaaDoorCards
import Derived.ChangeOld
import Derived.Below
import Derived.OpenShut
import Derived.Stop.Joined
import Derived.Lib.SmallJoins
import Derived.Test.YtniggdaakiofeaaDoorEk
import Derived.Test.YtniggdaakiofeaaDoorEs
namespace Go.Proofs.YtniggdaakiofeaaDoor
open Go Go.RowKit Go.Sort
set_option maxHeartbeats 1000000
/- of this seat alone: 80 -/

set_option maxRecDepth 100000 in
theorem rproject_any (avv arv nv : Value) (VV J : List ByteArray) (M : List (List VarN)) (w : World) (ha : TD w (.agg #[avv, arv]) VV M) (hn : RdS w nv J) (hu : VV.length ≤ 40000) (hj0 : J.length ≤ 40000) (hr : M.length ≤ 100000) (hrl : ∀ r ∈ M, r.length ≤ 1000000) :
    Calls Tryd.prog 33 #[.agg #[avv, arv], nv] w fun e w' => ∃ vv rv, e = .returned (.agg #[vv, rv]) ∧ TD w' (.agg #[vv, rv]) (setS J) (M.map (projQ (setS J))) ∧ Ext w w' := by
  have CB := Lib.hid (fun w' (hE : Ext w w') => both_any nv (.slice none 0 0) J [] w' (rdS_ext hn hE) (rdS_row (rowE_nil _)) hj0 (by simp))
  obtain ⟨A3, c3, rfl⟩ := rdS_form hn
  clear hn
  obtain ⟨a1, a2⟩ := tD_parts ha
  obtain ⟨A1, c1, rfl⟩ := rowE_form a1
  obtain ⟨A2, c2, rfl⟩ := rdQ_form a2
  have HA1 := Lib.hid a1
  have HA2 := Lib.hid a2
  have HR := Lib.hid hrl
  clear ha a1 a2 hrl
  obtain ⟨h0, h2⟩ := heap_two w (.cells #[.slice A1 VV.length c1, .slice A2 M.length c2] 34) (.cells #[.slice none 0 0, .slice none 0 0] 34)
  have HE0 := Lib.hid (ext_alloc (ext_alloc (ext_refl w) (.cells #[.slice A1 VV.length c1, .slice A2 M.length c2] 34)) (.cells #[.slice none 0 0, .slice none 0 0] 34))
  have HH0 := Lib.hid h0
  have HH2 := Lib.hid h2
  clear h0 h2
  obtain ⟨W, hWW⟩ : ∃ W, W = setS (J ++ []) := ⟨_, rfl⟩
  have hWl : W.length ≤ 40000 := by rw [hWW]; have := setS_length (J ++ []); simp at this ⊢; omega
  have HWE := Lib.hid (show W = setS J by rw [hWW, List.append_nil])
  rw [← hWW] at CB
  clear hWW
  go_enter Tryd.func33, Tryd.ntmps33
  go_wp2_with (go_at_call 26; refine (CB.out _ HE0.out).mono ?_; rintro e w2 ⟨v2, rfl, hr2, hE2⟩; obtain ⟨A6, c6, rfl⟩ := rowE_form hr2; have HR2 := Lib.hid hr2; have HE2 := Lib.hid hE2; have q1 : w2.cell? ⟨w.heap.size, 1, none⟩ = some (.slice A2 M.length c2) := (ext_cell hE2 _ _ (block_lt HH0.out)).trans (block_cell HH0.out 1); have l0 := ext_lt hE2 (block_lt HH0.out); clear hr2 hE2)
  obtain ⟨b0, hb0⟩ : ∃ b, b = w.heap.size := ⟨_, rfl⟩
  obtain ⟨b2, hb2⟩ : ∃ b, b = w.heap.size + 1 := ⟨_, rfl⟩
  obtain ⟨p, hp⟩ : ∃ b, b = w2.heap.size := ⟨_, rfl⟩
  obtain ⟨W2, hW2⟩ : ∃ W2, W2 = w2.alloc (.cells #[.slice A6 W.length c6, .slice none 0 0] 34) := ⟨_, rfl⟩
  have hs2 := ext_size HE2.out
  simp only [World.size_alloc] at hs2
  have hE2W : Ext w2 W2 := by rw [hW2]; exact ext_alloc (ext_refl _) _
  have hE3 := ext_trans HE2.out hE2W
  have hbp : W2.heap[p]? = some (.cells #[.slice A6 W.length c6, .slice none 0 0] 34 (0, 0)) := by rw [hW2, hp]; exact heap_alloc_new w2 _
  have hT : TDB (fun g => p ≤ g) W2 p W [] := ⟨_, _, [], hbp, rowE_ext HR2.out hE2W, ⟨rowE_nil _, fun g hg => by cases hg⟩, rowsQ_nil _⟩
  have HJ := Lib.hid (show DI b0 b2 p #[.slice A1 VV.length c1, .slice A2 M.length c2] W ((M.take 0).map (projQ W)) w W2 from ⟨hT, by rw [hb0]; exact (ext_block hE3 (block_lt HH0.out)).trans HH0.out, by rw [hb2]; exact (ext_block hE3 (block_lt HH2.out)).trans HH2.out, block_lt hbp, ext_trans HE0.out hE3⟩)
  have HBD := Lib.hid (show b0 < p ∧ b2 < p ∧ w.heap.size ≤ p by omega)
  have HB2 := Lib.hid (show w.heap.size ≤ b2 by omega)
  try rw [← hW2]
  try rw [← hp]
  try rw [← hb2]
  try rw [← hb0]
  clear q1 l0 hT hE3 hE2W hs2 hW2 hp hb0 hb2 HE0 HH0 HH2 hbp HR2 HE2
  go_loopw [15] (fun x wr => ∃ j : Nat, j ≤ M.length ∧ x = .int .i64 j ∧ DI b0 b2 p #[.slice A1 VV.length c1, .slice A2 M.length c2] W ((M.take j).map (projQ W)) w wr) (fun x _ => M.length - (intOf x).toNat)
  case atStart => exact ⟨0, Nat.zero_le _, rfl, HJ.out⟩
  case round =>
    rename World => wo
    obtain ⟨j, hj, rfl, hJ⟩ := hrel
    have HJ2 := Lib.hid hJ
    clear hJ HJ
    by_cases hlt : j < M.length
    · have hji : (j : Int) < (M.length : Int) := by omega
      have hj0' : (0 : Int) ≤ (j : Int) := by omega
      obtain ⟨r, hr'⟩ : ∃ r, M[j]? = some r := ⟨_, List.getElem?_eq_getElem hlt⟩
      have HX := Lib.hid hr'
      have HXL := Lib.hid (HR.out r (List.mem_of_getElem? hr'))
      obtain ⟨b, B', d', hG, hb, hc, hri⟩ := rdQ_at HA2.out hr'
      subst hG
      have HRI := Lib.hid hri
      have HBB := Lib.hid hb
      have HBC := Lib.hid hc
      obtain ⟨T, hT⟩ : ∃ T, T = (M.take j).map (projQ W) := ⟨_, rfl⟩
      have hTl : T.length ≤ 100000 := by rw [hT, List.length_map, List.length_take]; omega
      have HTE := Lib.hid hT
      rw [← hT] at HJ2
      clear hr' hri hb hc hT
      obtain ⟨vv0, rv0, sl0, p1, p2, p3, p4⟩ := HJ2.out.tab
      obtain ⟨A9, c9, rfl⟩ := rowE_form p2
      have P2 := Lib.hid p2
      have HP1 := Lib.hid p1
      have P3 := Lib.hid p3
      have P4 := Lib.hid p4
      have q1 : wo.cell? ⟨p, 0, none⟩ = some (.slice A9 W.length c9) := block_cell p1 0
      have l1 := block_lt p1
      have hll : sl0.length ≤ 100000 := by rw [p4.1]; omega
      clear p1 p2 p3 p4
      go_wp2
      clear q1 l1
      go_loopw [21, 7] (fun y f wr => ∃ k : Nat, k ≤ W.length ∧ y = .int .i64 k ∧ rowE elP wr f (projQ (W.take k) r) ∧ Ext wo wr) (fun y _ _ => W.length - (intOf y).toNat)
      case atStart => exact ⟨0, Nat.zero_le _, rfl, rowE_nil _, ext_refl _⟩
      case round =>
        rename World => wi
        obtain ⟨k, hk, rfl, hrow, hEi⟩ := hrel
        have HRK := Lib.hid hrow
        have HEI := Lib.hid hEi
        obtain ⟨A7, c7, rfl⟩ := rowE_form hrow
        have hrl' : (projQ (W.take k) r).length ≤ 40000 := by have := projQ_len (r := r) (W.take k) []; rw [List.length_take] at this; unfold projQ; simp at this ⊢; omega
        clear hrow hEi
        by_cases hkt : k < W.length
        · have hki : (k : Int) < (W.length : Int) := by omega
          have hk0 : (0 : Int) ≤ (k : Int) := by omega
          obtain ⟨u, hu'⟩ : ∃ u, W[k]? = some u := ⟨_, List.getElem?_eq_getElem hkt⟩
          have HU := Lib.hid hu'
          obtain ⟨g, rfl, hg⟩ := rowE_some P2.out (fun e => by rw [e] at hu'; simp at hu')
          have q3 := rowS_cell (rowE_ext P2.out HEI.out) hu'
          have l3 := ext_lt HEI.out hg
          obtain ⟨X, hX⟩ : ∃ X, X = projQ (W.take k) r := ⟨_, rfl⟩
          rw [← hX] at HRK hrl' ⊢
          have HXE := Lib.hid hX
          have CG := Lib.hid (show ∀ w', Ext wi w' → Calls Tryd.prog 48 #[.slice B' r.length d', .string u] w' (fun e w'' => e = .returned (.int .i64 (getR r u)) ∧ Ext w' w'') from fun w' hE => (get_any _ r u w' (rowE_ext HRI.out (ext_trans HJ2.out.ext (ext_trans HEI.out hE))) HXL.out).mono fun e w'' h => ⟨h.1, h.2 ▸ ext_refl _⟩)
          obtain ⟨n, hn⟩ : ∃ n, n = getR r u := ⟨_, rfl⟩
          rw [← hn] at CG
          have HN := Lib.hid hn
          have hp1 := (ext_block HEI.out (block_lt HP1.out)).trans HP1.out
          have q1 : wi.cell? ⟨p, 0, none⟩ = some (.slice (some ⟨g, 0, none⟩) W.length c9) := block_cell hp1 0
          have l1 := block_lt hp1
          have ha1 := (ext_block HEI.out (block_lt HJ2.out.a)).trans HJ2.out.a
          have q2 : wi.cell? ⟨b0, 1, none⟩ = some (.slice (some ⟨b, 0, none⟩) M.length c2) := block_cell ha1 1
          have l2 := block_lt ha1
          have q4 := (ext_cell (ext_trans HJ2.out.ext HEI.out) _ _ HBB.out).trans HBC.out
          have l4 := ext_lt (ext_trans HJ2.out.ext HEI.out) HBB.out
          clear hu' hg hp1 ha1 hX hn
          have hgc := cell_grown
          go_wp2
          refine wp_region_gen [] [0, 1, 2, 3, 4, 5, 6, 7, 8, 9, 10, 11, 12, 13, 14, 15, 16] [(17, fun v w' => rowE elP w' v (putR X u n))] [18] [17] rfl (by kernel_rfl) (by kernel_rfl) (fun _ _ d _ _ h => by cases d <;> exact h) ?_
          refine wpPre_nil ?_
          repeat (refine wpLoose_step rfl (fun K hK => ?_); (try simp only [Oper.quietAt, Oper.quietUpon]); go_simp; first | (refine hK _ ?_; clear hK K) | (apply Exists.intro; refine ⟨fun p => ?_, hK _ ?_⟩; (go_at_call 48; exact CG.out _ (ext_grow (ext_refl _) _ _)); clear hK K))
          refine wpLoose_nil ?_
          clear q1 q2 q3 q4 l1 l2 l3 l4 hgc
          refine wpGen_step rfl rfl (fun v a b hE h => rowE_ext h hE) (fun w6 hE6 hS6 => ?_) (fun v8 => ?_)
          · simp only [runsAt]
            go_simp
            refine (put_any _ X u n w6 (rowE_ext HRK.out hE6) (by omega)).mono ?_
            rintro e w7 ⟨v', rfl, h3, h4⟩
            exact ⟨_, rfl, h4, h3⟩
          refine wpGen_nil (fun w6 hE6 hS6 => ?_)
          have h8 : rowE elP w6 v8 (putR X u n) := hS6 _ (List.mem_cons_self ..)
          have H8 := Lib.hid h8
          have HE6 := Lib.hid (ext_trans HEI.out hE6)
          obtain ⟨A8, c8, rfl⟩ := rowE_form h8
          clear hS6 h8 hE6
          obtain ⟨X8, hX8⟩ : ∃ X8, X8 = putR X u n := ⟨_, rfl⟩
          rw [← hX8] at H8 ⊢
          have HX8 := Lib.hid hX8
          clear hX8
          refine wpSeq_of_list [18] [_] _ _ rfl ?_
          go_wp2
          go_roundw
          case rel => exact ⟨k + 1, by omega, by go_num, by rw [projQ_take HU.out, ← HXE.out, ← HN.out, ← HX8.out]; exact H8.out, HE6.out⟩
          case measure => simp [intOf]; omega
        · obtain rfl : k = W.length := by omega
          rw [List.take_length] at HRK ⊢
          obtain ⟨X, hX⟩ : ∃ X, X = projQ W r := ⟨_, rfl⟩
          rw [← hX] at HRK ⊢
          have HXE := Lib.hid hX
          have hp1 := (ext_block HEI.out (block_lt HP1.out)).trans HP1.out
          obtain ⟨A8, c8, hrv⟩ := rowE_form P3.out.1
          subst hrv
          have qp : wi.cell? ⟨p, 1, none⟩ = some (.slice A8 sl0.length c8) := block_cell hp1 1
          have lp := block_lt hp1
          have HPP1 := Lib.hid hp1
          have HPI := Lib.hid (Nat.lt_of_lt_of_le HJ2.out.size (ext_size HEI.out))
          clear hX hp1
          go_wp2_with (at_builtin; refine halt_here ?_)
          refine go_on ?_
          refine wpList_append rfl (.tmp 44) (.tmp 46) rfl (.slice A8 sl0.length c8) _ rfl rfl (fun v' w' => WM (fun g => p ≤ g) p W (T ++ [X]) wi (.slice A8 sl0.length c8) v' w') (want_run _ HPP1.out (rowE_ext P2.out HEI.out) (rowG_ext _ _ _ HEI.out P3.out) (rowsQ_ext P4.out HEI.out) HRK.out (by omega) (fun b hb => by have := HPI.out; omega)) ?_
          rintro v5 w5 ⟨x1, x2, x3, x4, x5, A5, n5, c5, rfl⟩
          have HJ5 := Lib.hid ((HJ2.out.on HEI.out).more x1 x2 (fun b hb => hb.elim (fun e => P3.out.2 b e) (fun e => by omega)) HBD.out)
          clear x1 x2 qp lp
          go_wp2
          go_roundw
          case rel => exact ⟨j + 1, by omega, by go_num, by rw [List.take_add_one, HX.out, List.map_append, ← HTE.out]; rw [HXE.out] at HJ5; exact HJ5.out⟩
          case measure => simp [intOf]; omega
    · obtain rfl : j = M.length := by omega
      have hT := HJ2.out.tab
      obtain ⟨N, hN⟩ : ∃ N, N = M.map (projQ W) := ⟨_, rfl⟩
      rw [List.take_length] at hT
      rw [← hN] at hT
      obtain ⟨vv, rv, sl, t1, t2, t3, t4⟩ := hT
      obtain ⟨A7, c7, rfl⟩ := rowE_form t2
      obtain ⟨A8, c8, rfl⟩ := rowE_form t3.1
      have q0 : wo.cell? ⟨p, 0, none⟩ = some (.slice A7 W.length c7) := block_cell t1 0
      have q1 : wo.cell? ⟨p, 1, none⟩ = some (.slice A8 sl.length c8) := block_cell t1 1
      have lp := block_lt t1
      have r0 : wo.cell? ⟨b2, 0, none⟩ = some (.slice none 0 0) := block_cell HJ2.out.r 0
      have r1 : wo.cell? ⟨b2, 1, none⟩ = some (.slice none 0 0) := block_cell HJ2.out.r 1
      have s0 : wo.frozen? ⟨b2, 0, none⟩ = false := block_frozen HJ2.out.r 0
      have s1 : wo.frozen? ⟨b2, 1, none⟩ = false := block_frozen HJ2.out.r 1
      have l1 := block_lt HJ2.out.r
      have HOW := Lib.hid (show TD wo (.agg #[.slice A7 W.length c7, .slice A8 sl.length c8]) W N from ⟨_, _, rfl, t2, sl, t3.1, t4⟩)
      have HN := Lib.hid hN
      clear t1 t2 t3 t4 hN
      go_wp2
      obtain ⟨wf, hwf⟩ : ∃ wf, wf = (wo.setCell ⟨b2, 0, none⟩ (.slice A7 W.length c7)).setCell ⟨b2, 1, none⟩ (.slice A8 sl.length c8) := ⟨_, rfl⟩
      obtain ⟨t0, t1, ho, he⟩ := fin_td (H := p) (w := w) hwf HOW.out HJ2.out.r HB2.out HJ2.out.ext
      rw [← hwf]
      refine bodyPost_ret (v := .agg #[.slice A7 W.length c7, .slice A8 sl.length c8]) (by simp [results, Tryd.results33, go_sem, t0, t1]) rfl ?_
      rw [HN.out] at ho
      rw [← HWE.out]
      exact ⟨_, _, rfl, ho, he⟩
end Go.Proofs.YtniggdaakiofeaaDoor
namespace Go.Proofs.YtniggdaakiofeaaDoor
open Go Go.RowKit Go.Sort
set_option maxHeartbeats 1000000
/- of this seat alone: 80 -/

def sumL (x : List Int) : Int := (x.map fun n => max n 0).sum
def okL (t : Nat) (x : List Int) : Bool := decide (sumL x ≤ (t : Int) % 9)
def SmallL (x : List Int) : Prop := ∀ n ∈ x, n ≤ 1000
theorem sumL_take {x : List Int} {k : Nat} {n : Int} (h : x[k]? = some n) : sumL (x.take (k + 1)) = sumL (x.take k) + max n 0 := by
  unfold sumL
  rw [List.take_add_one, h, Option.toList_some, List.map_append, List.sum_append]
  simp
theorem sumL_bound : ∀ {x : List Int}, SmallL x → 0 ≤ sumL x ∧ sumL x ≤ 1000 * (x.length : Int)
  | [], _ => by simp [sumL]
  | n :: x, h => by
    have h1 := sumL_bound (x := x) (fun m hm => h m (List.mem_cons_of_mem _ hm))
    have h2 := h n (List.mem_cons_self ..)
    simp only [sumL, List.map_cons, List.sum_cons, List.length_cons] at h1 ⊢
    omega
theorem smallL_take {x : List Int} (h : SmallL x) (k : Nat) : SmallL (x.take k) := fun n hn => h n (List.mem_of_mem_take hn)
theorem okL_same {V : List ByteArray} (hV : RiseS V) {r : List VarN} (h : okR V r) (t : Nat) : okL t (rowD V r) = decide (sumR r ≤ (t : Int) % 9) := by
  unfold okL
  have : sumL (rowD V r) = sumV V (getR r) := by
    unfold sumL sumV rowD
    rw [List.map_map]
    rfl
  rw [this, sum_same (rise_nodup hV) h]
/-- the rows that are kept -/
def fltQ (t : Nat) (M : List (List VarN)) : List (List VarN) := M.filter fun r => decide (sumR r ≤ (t : Int) % 9)
theorem flt_rows {V : List ByteArray} (hV : RiseS V) {M : List (List VarN)} (h : ∀ r ∈ M, okR V r) (t : Nat) : (rowsD V M).filter (okL t) = rowsD V (fltQ t M) := by
  unfold rowsD fltQ
  rw [List.filter_map]
  congr 1
  exact List.filter_congr (fun r hr => okL_same hV (h r hr) t)
theorem flt_yes {t : Nat} {M : List (List VarN)} {j : Nat} {r : List VarN} (hr : M[j]? = some r) (h : sumR r ≤ (t : Int) % 9) : fltQ t (M.take (j + 1)) = fltQ t (M.take j) ++ [r] := by
  unfold fltQ
  rw [List.take_add_one, hr, Option.toList_some, List.filter_append, List.filter_cons_of_pos (by simpa using h), List.filter_nil]
theorem flt_no {t : Nat} {M : List (List VarN)} {j : Nat} {r : List VarN} (hr : M[j]? = some r) (h : ¬ sumR r ≤ (t : Int) % 9) : fltQ t (M.take (j + 1)) = fltQ t (M.take j) := by
  unfold fltQ
  rw [List.take_add_one, hr, Option.toList_some, List.filter_append, List.filter_cons_of_neg (by simpa using h), List.filter_nil, List.append_nil]
theorem tb_flt {n m : Nat} {U : List ByteArray} {M : List (List VarN)} (a : Tb n m U M) (t : Nat) : Tb n m U (fltQ t M) :=
  tb_of ⟨a.q.rise, fun r hr => a.q.ok r (List.mem_filter.1 hr).1, fun r hr => a.q.tiny r (List.mem_filter.1 hr).1⟩ a.vars (Nat.le_trans (List.length_filter_le ..) a.rows)
theorem egRw1 (args : Array Value) (w : World) : (callFunc 30 args).run Tryd.prog w = .ok (.enter 30 args) w := enter_fn Tryd.func30 (by kernel_rfl) rfl args w
theorem rowsF_any (bm t : Nat) (tv xv : Value) (V : List ByteArray) (R : List (List Int)) (x : List Int) (w : World) (hm : w.heap[bm]? = some (.cells #[.int .u8 (t : Int)] 5 (0, 0))) (ht256 : t ≤ 255) (ht : TabV w tv V R) (hx : RdI w xv x) (hl : x.length ≤ 100000) (hs : SmallL x) :
    Calls Tryd.prog 30 #[tv, xv, .pointer (some ⟨bm, 0, none⟩)] w fun e w' => e = .returned (.bool (okL t x)) ∧ Ext w w' := by
  obtain ⟨vv, rv, rfl, -, -⟩ := ht
  obtain ⟨A3, c3, rfl⟩ := rdI_form hx
  have HX := Lib.hid hx
  have HM := Lib.hid hm
  have HSM := Lib.hid hs
  have HE0 := Lib.hid (ext_alloc (ext_refl w) (.cells #[vv, rv] 31))
  clear hx hm hs
  go_enter Tryd.func30, Tryd.ntmps30
  go_wp2
  obtain ⟨w0, hw0⟩ : ∃ w0, w0 = w.alloc (.cells #[vv, rv] 31) := ⟨_, rfl⟩
  rw [← hw0] at HE0
  try rw [← hw0]
  clear hw0
  go_loopw [11, 6] (fun z y wr => ∃ k : Nat, k ≤ x.length ∧ z = .int .i64 k ∧ y = .int .i64 (sumL (x.take k)) ∧ wr = w0) (fun z _ _ => x.length - (intOf z).toNat)
  case atStart => exact ⟨0, Nat.zero_le _, rfl, rfl, by trivial⟩
  case round =>
    obtain ⟨k, hk, rfl, rfl, rfl⟩ := hrel
    have hbd := sumL_bound (smallL_take HSM.out k)
    rw [List.length_take] at hbd
    by_cases hlt : k < x.length
    · have hki : (k : Int) < (x.length : Int) := by omega
      have hk0 : (0 : Int) ≤ (k : Int) := by omega
      obtain ⟨n, hn⟩ : ∃ n, x[k]? = some n := ⟨_, List.getElem?_eq_getElem hlt⟩
      obtain ⟨b, off, rfl, hb, hc⟩ := rdI_at (rdI_ext HX.out HE0.out) hn
      have hn1 := HSM.out n (List.mem_of_getElem? hn)
      have HT := Lib.hid (sumL_take hn)
      obtain ⟨s, hs⟩ : ∃ s, s = sumL (x.take k) := ⟨_, rfl⟩
      rw [← hs] at HT hbd ⊢
      have hw : IntKind.i64.wrap (s + max n 0) = s + max n 0 := IntWalk.i64_in _ (by omega)
      clear hn hs hbd
      go_wp2
      go_roundw
      case rel => exact ⟨k + 1, by omega, by go_num, by rw [HT.out], by trivial⟩
      case measure => simp [intOf]; omega
    · obtain rfl : k = x.length := by omega
      rw [List.take_length] at hbd ⊢
      obtain ⟨s, hs⟩ : ∃ s, s = sumL x := ⟨_, rfl⟩
      have hmx := (ext_block HE0.out (block_lt HM.out)).trans HM.out
      have qm := block_cell hmx 0
      have lm := block_lt hmx
      have HOK := Lib.hid (show okL t x = decide (s ≤ (t : Int) % 9) by rw [hs]; rfl)
      rw [← hs]
      clear hs hbd hmx
      by_cases hle : s ≤ (t : Int) % 9
      · have HV := Lib.hid (show okL t x = true by rw [HOK.out]; simpa using hle)
        go_wp2
        refine bodyPost_ret (results_tmp rfl _ _ _) rfl ?_
        exact ⟨by rw [HV.out]; rfl, HE0.out⟩
      · have HV := Lib.hid (show okL t x = false by rw [HOK.out]; simpa using hle)
        go_wp2
        refine bodyPost_ret (results_tmp rfl _ _ _) rfl ?_
        exact ⟨by rw [HV.out]; rfl, HE0.out⟩
theorem filtT {n m H : Nat} (bm t : Nat) (tv : Value) {U : List ByteArray} {M : List (List VarN)} (w : World) (ht : TabQ H U M tv w) (hm : w.heap[bm]? = some (.cells #[.int .u8 (t : Int)] 5 (0, 0))) (ht256 : t ≤ 255) (a : Tb n m U M) (h1 : n ≤ 100) (h2 : m ≤ 1000) (hs : ∀ x ∈ rowsD U M, SmallL x) (S : List (List VarN)) (hS : S = fltQ t M) :
    Calls Tryd.prog 27 #[tv, .func (.func 30) #[] #[.pointer (some ⟨bm, 0, none⟩)]] w fun e w' => ∃ A c B d, e = .returned (.agg #[.slice A U.length c, .slice B S.length d]) ∧ Own w.heap.size w' (.slice A U.length c) (.slice B S.length d) U (rowsD U S) ∧ Ext w w' := by
  subst hS
  obtain ⟨x, y, rfl, ka⟩ := tabQ_tab ht
  have hx := tb_rows a
  have hv := a.vars
  refine (filter_pure _ #[.pointer (some ⟨bm, 0, none⟩)] egRw1 (okL t) x y U (rowsD U M) w ka (by omega) (by omega) (fun y h => by rw [hx.1 y h]; omega) (fun z zv w1 hz hE htv hri => rowsF_any bm t _ zv U (rowsD U M) z w1 ((ext_block hE (block_lt hm)).trans hm) ht256 htv hri (by rw [hx.1 z hz]; omega) (hs z hz))).mono ?_
  rintro e w' ⟨vv, rv, rfl, how, hE⟩
  rw [flt_rows a.q.rise a.q.ok] at how
  obtain ⟨A, c, B, d, e1, how2⟩ := tabQ_form (show TabQ w.heap.size U (fltQ t M) (.agg #[vv, rv]) w' from ⟨vv, rv, rfl, how⟩)
  rw [e1]
  exact ⟨A, c, B, d, rfl, how2, hE⟩
theorem tiny_fold {r : List VarN} (h : tinyP r) : ∀ (W : List ByteArray) (out : List VarN), tinyP out → tinyP (W.foldl (fun out v => putR out v (getR r v)) out)
  | [], _, ho => ho
  | v :: W, out, ho => tiny_fold h W _ (tiny_put ho (get_tiny h v))
theorem tb_proj {n n' m : Nat} {U J : List ByteArray} {M : List (List VarN)} (a : Tb n m U M) (hJ : J.length ≤ n') (S : List (List VarN)) (hS : S = M.map (projQ (setS J))) : Tb n' m (setS J) S := by
  subst hS
  refine tb_of ⟨rise_setS _, fun r hr => ?_, fun r hr p hp => ?_⟩ (Nat.le_trans (setS_length J) hJ) (by rw [List.length_map]; exact a.rows)
  · obtain ⟨r0, h0, rfl⟩ := List.mem_map.1 hr
    exact proj_ok (a.q.ok r0 h0).1
  · obtain ⟨r0, h0, rfl⟩ := List.mem_map.1 hr
    exact tiny_fold (a.q.tiny r0 h0) (setS J) [] (fun p hp => by cases hp) p hp
theorem projT {n m H : Nat} (tv nv : Value) {U J W : List ByteArray} {M S : List (List VarN)} (w : World) (ht : TabQ H U M tv w) (hn : RdS w nv J) (hW : W = setS J) (hS : S = M.map (projQ (setS J))) (a : Tb n m U M) (h1 : n ≤ 100) (h2 : m ≤ 1000) (h3 : J.length ≤ 100) :
    Calls Tryd.prog 32 #[tv, nv] w fun e w' => ∃ v', e = .returned v' ∧ TabQ w.heap.size W S v' w' ∧ Ext w w' := by
  subst hW hS
  obtain ⟨x, y, rfl, ka⟩ := tabQ_tab ht
  have hx := tb_rows a
  have hv := a.vars
  refine (project_any x y nv U J (rowsD U M) w ka hn a.q.rise (by omega) (by omega) hx.1 (by omega)).mono ?_
  rintro e w' ⟨vv, rv, rfl, how, hE⟩
  rw [proj_same a.q.ok] at how
  exact ⟨_, rfl, ⟨vv, rv, rfl, how⟩, hE⟩
theorem rprojT {n m : Nat} (av nv : Value) {U J W : List ByteArray} {M S : List (List VarN)} (w : World) (ha : TD w av U M) (hn : RdS w nv J) (hW : W = setS J) (hS : S = M.map (projQ (setS J))) (a : Tb n m U M) (h1 : n ≤ 100) (h2 : m ≤ 1000) (h3 : J.length ≤ 100) :
    Calls Tryd.prog 33 #[av, nv] w fun e w' => ∃ v', e = .returned v' ∧ TD w' v' W S ∧ Ext w w' := by
  subst hW hS
  have ha' := ha
  obtain ⟨x, y, rfl, -, -⟩ := ha
  have hv := a.vars
  have hr := a.rows
  refine (rproject_any x y nv U J M w ha' hn (by omega) (by omega) (by omega) (fun r h => by have := a.len r h; omega)).mono ?_
  rintro e w' ⟨vv, rv, rfl, hto, hE⟩
  exact ⟨_, rfl, hto, hE⟩
theorem sortTR {n m H : Nat} (tv : Value) {U : List ByteArray} {M : List (List VarN)} (w : World) (ht : TabQ H U M tv w) (a : Tb n m U M) (h1 : n ≤ 100) (h2 : m < 20) :
    Calls Tryd.prog 36 #[tv, .func (.func 31) #[] #[]] w fun e w' => ∃ v', e = .returned v' ∧ TabQ w.heap.size U (sortQ U M) v' w' ∧ Ext w w' :=
  sortTQ 31 egUp31 up31 tv w ht a h1 h2
theorem smallL_of {U : List ByteArray} {M : List (List VarN)} (h : IsQ U M) : ∀ x ∈ rowsD U M, SmallL x := fun x hx n hn => by
  have := isQ_tiny h x hx n hn
  omega
def nameR (x : Nat) : ByteArray := ⟨#[UInt8.ofNat (97 + x % 7)]⟩
theorem nameR_take {xs : List Nat} {j x : Nat} (hx : xs[j]? = some x) : (xs.take (j + 1)).map nameR = (xs.take j).map nameR ++ [nameR x] := by
  rw [List.take_add_one, hx]
  simp
end Go.Proofs.YtniggdaakiofeaaDoor
namespace Go.Proofs.YtniggdaakiofeaaDoor
open Go Go.RowKit Go.Sort
set_option maxHeartbeats 20000000

/- of this seat alone: 80 -/
set_option maxRecDepth 100000 in
theorem rows_law (v0 v1 : Value) (t : Nat) (xs : List Nat) (rs : List (List Nat)) (ns : List Nat) (w : World) (h0 : RawV w v0 xs rs) (h1 : RdU w v1 ns) (l0 : xs.length ≤ maxLen) (m0 : rs.length ≤ maxLen) (n0 : ∀ r ∈ rs, r.length ≤ maxLen) (l1 : ns.length ≤ maxLen) (ht : t ≤ 255) (hT : TabP w) :
    Calls Tryd.prog 7 #[v0, v1, .int .u8 (t : Int)] w fun e w' => e = .returned (.bool true) ∧ Ext w w' := by
  have hml : maxLen ≤ 9223372036854775807 := by decide
  have HTP := Lib.hid hT
  have F0 := Lib.hid (fun w' (hE : Ext w w') => few_any v0 xs rs w' (rawV_ext h0 hE) (Nat.le_trans l0 hml) (Nat.le_trans m0 hml) (fun r hr => Nat.le_trans (n0 r hr) hml))
  have HR0 := Lib.hid h0
  have HNS := Lib.hid h1
  have hnml : (ns.length : Int) ≤ 9223372036854775807 := by have := Nat.le_trans l1 hml; omega
  obtain ⟨AN, cN, rfl⟩ := rdU_form h1
  obtain ⟨a0, d0, rfl, p0, q0⟩ := h0
  obtain ⟨A0, c0, rfl⟩ := rdU_form p0
  obtain ⟨B0, e0, rfl⟩ := rdUU_form q0
  clear p0 q0 l0 m0 n0 h1 l1 hT hml
  have HE_1 := Lib.hid (ext_refl w)
  go_enter Tryd.func7, Tryd.ntmps7
  go_wp2_with fail
  refine (awake_any _).mono ?_
  rintro e w1 ⟨rfl, hE⟩
  obtain ⟨hE, g0, g1⟩ := ext2 hE
  have HE_2 := Lib.hid (ext_trans HE_1.out hE)
  clear HE_1
  obtain ⟨bx0, hbx0⟩ : ∃ bx0, bx0 = w.heap.size := ⟨_, rfl⟩
  obtain ⟨bt, hbt⟩ : ∃ bt, bt = w.heap.size + 1 := ⟨_, rfl⟩
  try rw [← hbt]
  rw [← hbt] at g1
  try rw [← hbx0]
  rw [← hbx0] at g0
  have X0_3 := Lib.hid (show w1.heap[bx0]? = some (.cells #[.slice A0 xs.length c0, .slice B0 rs.length e0] 25 (0, 0)) from g0)
  have Sbx0 := Lib.hid hbx0
  clear g0 hbx0
  have XT_4 := Lib.hid (show w1.heap[bt]? = some (.cells #[.int .u8 (t : Int)] 5 (0, 0)) from g1)
  have Sbt := Lib.hid hbt
  clear g1 hbt
  clear hE
  have qX00 : w1.cell? ⟨bx0, 0, none⟩ = some (.slice A0 xs.length c0) := block_cell X0_3.out 0
  have qX01 : w1.cell? ⟨bx0, 1, none⟩ = some (.slice B0 rs.length e0) := block_cell X0_3.out 1
  have lX0 := block_lt X0_3.out
  go_wp2_with fail
  clear qX00 qX01 lX0
  refine (F0.out _ HE_2.out).mono ?_
  rintro e w2 ⟨rfl, hE⟩
  have HE_5 := Lib.hid (ext_trans HE_2.out hE)
  clear HE_2
  have X0_6 := Lib.hid ((ext_block hE (block_lt X0_3.out)).trans X0_3.out)
  clear X0_3
  have XT_7 := Lib.hid ((ext_block hE (block_lt XT_4.out)).trans XT_4.out)
  clear XT_4
  clear hE
  obtain ⟨f0, hf0⟩ : ∃ f, f = fewB xs rs := ⟨_, rfl⟩
  rw [← hf0]
  have HF0 := Lib.hid hf0
  clear hf0
  cases f0
  · skip
    go_wp2_with fail
    refine (awake_any _).mono ?_
    rintro e w3 ⟨rfl, hE⟩
    have HE_8 := Lib.hid (ext_trans HE_5.out hE)
    clear HE_5
    have X0_9 := Lib.hid ((ext_block hE (block_lt X0_6.out)).trans X0_6.out)
    clear X0_6
    have XT_10 := Lib.hid ((ext_block hE (block_lt XT_7.out)).trans XT_7.out)
    clear XT_7
    clear hE
    go_wp2
    refine bodyPost_ret (results_tmp rfl _ _ _) rfl ?_
    exact ⟨rfl, HE_8.out⟩
  rcases Nat.lt_or_ge 8 ns.length with hnl | hnl
  · have hnl8 : (8 : Int) < (ns.length : Int) := by omega
    go_wp2_with fail
    refine (awake_any _).mono ?_
    rintro e w4 ⟨rfl, hE⟩
    have HE_11 := Lib.hid (ext_trans HE_5.out hE)
    clear HE_5
    have X0_12 := Lib.hid ((ext_block hE (block_lt X0_6.out)).trans X0_6.out)
    clear X0_6
    have XT_13 := Lib.hid ((ext_block hE (block_lt XT_7.out)).trans XT_7.out)
    clear XT_7
    clear hE
    go_wp2
    refine bodyPost_ret (results_tmp rfl _ _ _) rfl ?_
    exact ⟨rfl, HE_11.out⟩
  have hnl8 : ¬ (8 : Int) < (ns.length : Int) := by omega
  obtain ⟨U, hU⟩ : ∃ U, U = setS (namesOf xs) := ⟨_, rfl⟩
  obtain ⟨M, hM⟩ : ∃ M, M = docT xs rs := ⟨_, rfl⟩
  have IT0 := Lib.hid (show IsT U M by rw [hU, hM]; exact isT_of HF0.out.symm)
  have DU := Lib.hid hU
  have DM := Lib.hid hM
  clear hU hM
  have qX00 : w2.cell? ⟨bx0, 0, none⟩ = some (.slice A0 xs.length c0) := block_cell X0_6.out 0
  have qX01 : w2.cell? ⟨bx0, 1, none⟩ = some (.slice B0 rs.length e0) := block_cell X0_6.out 1
  have lX0 := block_lt X0_6.out
  go_wp2_with fail
  clear qX00 qX01 lX0
  refine (build_spec _ xs rs U M _ DU.out DM.out (rawV_ext HR0.out HE_5.out) HF0.out.symm).mono ?_
  rintro e w5 ⟨P0, i0, Q0, j0, D0, k0, G0, o0, rfl, how, htd, hE⟩
  have HE_14 := Lib.hid (ext_trans HE_5.out hE)
  clear HE_5
  have X0_15 := Lib.hid ((ext_block hE (block_lt X0_6.out)).trans X0_6.out)
  clear X0_6
  have XT_16 := Lib.hid ((ext_block hE (block_lt XT_7.out)).trans XT_7.out)
  clear XT_7
  clear hE
  have bu0 : U.length ≤ 5 := IT0.out.vars
  have br0 : M.length ≤ 8 := IT0.out.rows
  have OA0_17 := Lib.hid (how)
  have TD0_18 := Lib.hid (htd)
  clear how htd
  clear hnl8
  have TB0 := Lib.hid (tb_isT IT0.out DM.out)
  have hub : U.length ≤ 100 := by omega
  have ht256 : (0 : Int) ≤ (t : Int) ∧ (t : Int) < 256 := by omega
  go_wp2
  obtain ⟨W6, hW⟩ : ∃ W, W = (w5.alloc (.cells #[.slice P0 U.length i0, .slice Q0 M.length j0] 31)).alloc (.cells #[.slice D0 U.length k0, .slice G0 M.length o0] 34) := ⟨_, rfl⟩
  have hE : Ext w5 W6 := by rw [hW]; exact ext_alloc (ext_alloc (ext_refl _) _) _
  obtain ⟨ca0, hca0⟩ : ∃ b, b = w5.heap.size := ⟨_, rfl⟩
  obtain ⟨cm0, hcm0⟩ : ∃ b, b = w5.heap.size + 1 := ⟨_, rfl⟩
  have g0 : W6.heap[ca0]? = some (.cells #[.slice P0 U.length i0, .slice Q0 M.length j0] 31 (0, 0)) := by rw [hW, hca0]; exact (heap_two w5 (.cells #[.slice P0 U.length i0, .slice Q0 M.length j0] 31) (.cells #[.slice D0 U.length k0, .slice G0 M.length o0] 34)).1
  have g1 : W6.heap[cm0]? = some (.cells #[.slice D0 U.length k0, .slice G0 M.length o0] 34 (0, 0)) := by rw [hW, hcm0]; exact (heap_two w5 (.cells #[.slice P0 U.length i0, .slice Q0 M.length j0] 31) (.cells #[.slice D0 U.length k0, .slice G0 M.length o0] 34)).2
  have Sca0 := Lib.hid hca0
  have Scm0 := Lib.hid hcm0
  try rw [← hW]
  try rw [← hcm0]
  try rw [← hca0]
  have HE_19 := Lib.hid (ext_trans HE_14.out hE)
  clear HE_14
  have X0_20 := Lib.hid ((ext_block hE (block_lt X0_15.out)).trans X0_15.out)
  clear X0_15
  have XT_21 := Lib.hid ((ext_block hE (block_lt XT_16.out)).trans XT_16.out)
  clear XT_16
  have OA0_22 := Lib.hid (own_ext OA0_17.out hE)
  clear OA0_17
  have TD0_23 := Lib.hid (tD_ext TD0_18.out hE)
  clear TD0_18
  have CA0_24 := Lib.hid (show W6.heap[ca0]? = some (.cells #[.slice P0 U.length i0, .slice Q0 M.length j0] 31 (0, 0)) from g0)
  clear g0 hca0
  have CM0_25 := Lib.hid (show W6.heap[cm0]? = some (.cells #[.slice D0 U.length k0, .slice G0 M.length o0] 34 (0, 0)) from g1)
  clear g1 hcm0
  clear hE hW
  obtain ⟨H, hH⟩ : ∃ H, H = W6.heap.size := ⟨_, rfl⟩
  have HHE := Lib.hid hH
  clear hH
  go_loopw [37, 9] (fun z y wr => ∃ j : Nat, j ≤ ns.length ∧ z = .int .i64 j ∧ rowF elS H ((ns.take j).map nameR) y wr ∧ Ext W6 wr) (fun z _ _ => ns.length - (intOf z).toNat)
  case atStart => exact ⟨0, Nat.zero_le _, rfl, rowF_nil _ _, ext_refl _⟩
  case round =>
    rename World => wo
    obtain ⟨j, hj, rfl, hrow, hE⟩ := hrel
    have HO := Lib.hid hE
    have HR := Lib.hid hrow
    clear hE hrow
    by_cases hlt : j < ns.length
    · have hji : (j : Int) < (ns.length : Int) := by omega
      have hj0 : (0 : Int) ≤ (j : Int) := by omega
      obtain ⟨x, hx⟩ : ∃ x, ns[j]? = some x := ⟨_, List.getElem?_eq_getElem hlt⟩
      obtain ⟨b, off, rfl, hb, hc, hx256⟩ := rdU_at (rdU_ext HNS.out (ext_trans HE_19.out HO.out)) hx
      have HX := Lib.hid hx
      clear hx
      have hconv := conv_byte wo (97 + (x : Int) % 7) (97 + x % 7) (by omega)
      have HSB := Lib.hid (show strB (97 + x % 7) = nameR x from rfl)
      obtain ⟨nb, hnb⟩ : ∃ nb, nb = strB (97 + x % 7) := ⟨_, rfl⟩
      rw [← hnb] at hconv HSB
      have hrl : (((ns.take j).map nameR)).length ≤ 8 := by simp; omega
      clear hnb
      obtain ⟨NL, hNL⟩ : ∃ NL, NL = (ns.take j).map nameR := ⟨_, rfl⟩
      rw [← hNL] at HR hrl
      have HNL := Lib.hid hNL
      clear hNL
      go_wp2_with (at_builtin; refine halt_here ?_)
      refine go_on ?_
      have HEa := Lib.hid (ext_alloc (ext_alloc HO.out (.cells #[.int .u8 (97 + (x : Int) % 7)] 5)) (.cells #[.string nb] 9))
      have HRa := Lib.hid (rowF_ext _ _ _ (ext_alloc (ext_alloc (ext_refl wo) (.cells #[.int .u8 (97 + (x : Int) % 7)] 5)) (.cells #[.string nb] 9)) HR.out)
      have hH0 : H ≤ ((wo.alloc (.cells #[.int .u8 (97 + (x : Int) % 7)] 5)).alloc (.cells #[.string nb] 9)).heap.size := by
        have := ext_size HEa.out
        rw [HHE.out]; exact this
      refine wpList_append rfl (.tmp 41) (.tmp 47) rfl _ _ rfl rfl (fun v' w' => rowF elS H (NL ++ [nb]) v' w' ∧ ((wo.alloc (.cells #[.int .u8 (97 + (x : Int) % 7)] 5)).alloc (.cells #[.string nb] 9)).grownBy w' _) (append_onto tpS _ H _ _ NL [nb] _ HRa.out (srcOf_one (H := 0) ⟨_, rfl, Nat.zero_le _, (heap_two wo _ _).2⟩) (by simp; omega) hH0) ?_
      rintro v5 w5 ⟨hR5, hG5⟩
      have HE5 := Lib.hid (ext_grown HEa.out hG5 HRa.out.2 (by rw [HHE.out]; exact Nat.le_refl _))
      have HR5 := Lib.hid hR5
      clear hR5 hG5 hconv hH0 hb hc
      go_wp2
      go_roundw
      case rel => exact ⟨j + 1, by omega, by go_num, by rw [nameR_take HX.out, ← HNL.out, ← HSB.out]; exact HR5.out, HE5.out⟩
      case measure => simp [intOf]; omega
    obtain rfl : j = ns.length := by omega
    have hrow := HR.out.1
    rw [List.take_length] at hrow
    obtain ⟨J, hJ⟩ : ∃ J, J = ns.map nameR := ⟨_, rfl⟩
    rw [← hJ] at hrow
    have hJl : J.length ≤ 8 := by rw [hJ, List.length_map]; exact hnl
    obtain ⟨A4, c4, hy4⟩ := rowE_form hrow
    subst hy4
    clear HR hJ hlt
    have HE_26 := Lib.hid (ext_trans HE_19.out HO.out)
    clear HE_19
    have X0_27 := Lib.hid ((ext_block HO.out (block_lt X0_20.out)).trans X0_20.out)
    clear X0_20
    have XT_28 := Lib.hid ((ext_block HO.out (block_lt XT_21.out)).trans XT_21.out)
    clear XT_21
    have OA0_29 := Lib.hid (own_ext OA0_22.out HO.out)
    clear OA0_22
    have TD0_30 := Lib.hid (tD_ext TD0_23.out HO.out)
    clear TD0_23
    have CA0_31 := Lib.hid ((ext_block HO.out (block_lt CA0_24.out)).trans CA0_24.out)
    clear CA0_24
    have CM0_32 := Lib.hid ((ext_block HO.out (block_lt CM0_25.out)).trans CM0_25.out)
    clear CM0_25
    have NM_33 := Lib.hid (hrow)
    clear hrow HO HHE
    have qCM00 : wo.cell? ⟨cm0, 0, none⟩ = some (.slice D0 U.length k0) := block_cell CM0_32.out 0
    have qCM01 : wo.cell? ⟨cm0, 1, none⟩ = some (.slice G0 M.length o0) := block_cell CM0_32.out 1
    have lCM0 := block_lt CM0_32.out
    obtain ⟨p, hp⟩ : ∃ p, p = wo.heap.size := ⟨_, rfl⟩
    obtain ⟨W, hW⟩ : ∃ W, W = wo.alloc (.cells #[.slice D0 U.length k0, .slice none 0 0] 34) := ⟨_, rfl⟩
    have hEW : Ext wo W := by rw [hW]; exact ext_alloc (ext_refl _) _
    have HT0 := Lib.hid (show TDB (fun g => p ≤ g) W p U (fltQ t (M.take 0)) from ⟨_, _, [], by rw [hW, hp]; exact heap_alloc_new _ _, rowE_ext (tD_parts TD0_30.out).1 hEW, ⟨rowE_nil _, fun g hg => by cases hg⟩, rowsQ_nil _⟩)
    have HEW := Lib.hid hEW
    have SP := Lib.hid hp
    go_wp2
    clear qCM00 qCM01 lCM0
    try rw [← hW]
    try rw [← hp]
    clear hW hp hEW
    go_loopw [56] (fun x wr => ∃ j : Nat, j ≤ M.length ∧ x = .int .i64 j ∧ TDB (fun g => p ≤ g) wr p U (fltQ t (M.take j)) ∧ Ext wo wr) (fun x _ => M.length - (intOf x).toNat)
    case atStart => exact ⟨0, Nat.zero_le _, rfl, HT0.out, HEW.out⟩
    case round =>
      rename World => wi
      obtain ⟨j, hj, rfl, hT, hE⟩ := hrel
      have HT := Lib.hid hT
      have HO := Lib.hid hE
      clear hT hE HT0 HEW
      have hpw := ext_size HO.out
      rw [← SP.out] at hpw
      have HPW := Lib.hid hpw
      clear hpw
      by_cases hlt : j < M.length
      · have hji : (j : Int) < (M.length : Int) := by omega
        have hj0 : (0 : Int) ≤ (j : Int) := by omega
        obtain ⟨r, hr⟩ : ∃ r, M[j]? = some r := ⟨_, List.getElem?_eq_getElem hlt⟩
        have HRJ := Lib.hid hr
        have HRM := Lib.hid (List.mem_of_getElem? hr)
        obtain ⟨b, B', d', hG, hb, hc, hri⟩ := rdQ_at (tD_parts TD0_30.out).2 hr
        subst hG
        have HRI := Lib.hid (rowE_ext hri HO.out)
        have q4 := (ext_cell HO.out _ _ hb).trans hc
        have l4 := ext_lt HO.out hb
        have hbt := (ext_block HO.out (block_lt XT_28.out)).trans XT_28.out
        have qt : wi.cell? ⟨bt, 0, none⟩ = some (.int .u8 (t : Int)) := block_cell hbt 0
        have lt' := block_lt hbt
        have hsm : ∀ q ∈ r, 0 ≤ q.2 ∧ q.2 ≤ 1000 := IT0.out.small r HRM.out
        have hsl : r.length ≤ 20 := IT0.out.len r HRM.out
        have CS := Lib.hid (fun w' (hE : Ext wi w') => sum_any _ r w' (rowE_ext HRI.out hE) (by omega) hsm)
        obtain ⟨sm, hsu⟩ : ∃ sm, sm = sumR r := ⟨_, rfl⟩
        rw [← hsu] at CS
        have DSU := Lib.hid hsu
        obtain ⟨T, hTT⟩ : ∃ T, T = fltQ t (M.take j) := ⟨_, rfl⟩
        rw [← hTT] at HT
        have DT := Lib.hid hTT
        have hTl : T.length ≤ 8 := by
          rw [hTT]
          have := List.length_filter_le (fun r => decide (sumR r ≤ (t : Int) % 9)) (M.take j)
          rw [List.length_take] at this
          unfold fltQ
          omega
        clear hr hri hb hc hbt hsm hsu hTT
        have hgc := cell_grown
        go_wp2
        refine wp_region_free 6 [0, 1, 2, 3, 4, 5] [] (by kernel_rfl) (by kernel_rfl) ?_
        repeat (refine wpLoose_step rfl (fun K hK => ?_); (try simp only [Oper.quietAt, Oper.quietUpon]); go_simp; first | (refine hK _ ?_; clear hK K) | (apply Exists.intro; refine ⟨fun p => ?_, hK _ ?_⟩; (go_at_call 29; exact CS.out _ (ext_grow (ext_refl _) _ _)); clear hK K))
        refine wpLoose_nil (wpFresh_nil (fun w3 hE3 _ => ?_))
        simp only [List.drop_succ_cons, List.drop_zero]
        refine wpList_nil ?_
        have HT4 := Lib.hid (tDB_ext HT.out hE3)
        have HO4 := Lib.hid (ext_trans HO.out hE3)
        have HRS4 := Lib.hid (rowE_ext HRI.out hE3)
        have HS4 := Lib.hid (Nat.le_trans HPW.out (ext_size hE3))
        clear hE3 hgc q4 l4 qt lt'
        have hmod : IntKind.i64.wrap ((t : Int).tmod 9) = (t : Int) % 9 := by
          rw [Int.tmod_eq_emod_of_nonneg (by omega)]
          exact IntWalk.i64_in _ (by omega)
        by_cases hle : sm ≤ (t : Int) % 9
        · have HY := Lib.hid (flt_yes HRJ.out (by rw [← DSU.out]; exact hle))
          rw [← DT.out] at HY
          obtain ⟨uv, ur, su, u1, u2, u3, u4⟩ := HT4.out
          have hsu := u4.1
          have qp : w3.cell? ⟨p, 1, none⟩ = some ur := block_cell u1 1
          have lp := block_lt u1
          have U1 := Lib.hid u1
          have U2 := Lib.hid u2
          have U3 := Lib.hid u3
          have U4 := Lib.hid u4
          clear u1 u2 u3 u4
          go_wp2_with (at_builtin; refine halt_here ?_)
          refine go_on ?_
          refine wpList_append rfl (.tmp 67) (.tmp 69) rfl ur _ rfl rfl (fun v' w' => WM (fun g => p ≤ g) p U (T ++ [r]) w3 ur v' w') (want_run _ U1.out U2.out U3.out U4.out HRS4.out (by omega) (fun b hb => by have := HS4.out; omega)) ?_
          rintro v5 w5 ⟨x1, x2, x3, x4, x5, A7, n7, c7, rfl⟩
          have HT5 := Lib.hid x1
          have HU5 := Lib.hid (ext_upd HO4.out x2 (fun b hb => by rw [← SP.out]; exact hb.elim (fun e => U3.out.2 b e) (fun e => by omega)))
          clear x1 x2 qp lp
          go_wp2
          go_roundw
          case rel => exact ⟨j + 1, by omega, by go_num, by rw [HY.out]; exact HT5.out, HU5.out⟩
          case measure => simp [intOf]; omega
        · have HN := Lib.hid (flt_no HRJ.out (by rw [← DSU.out]; exact hle))
          rw [← DT.out] at HN
          go_wp2
          go_roundw
          case rel => exact ⟨j + 1, by omega, by go_num, by rw [HN.out]; exact HT4.out, HO4.out⟩
          case measure => simp [intOf]; omega
      obtain rfl : j = M.length := by omega
      rw [List.take_length] at HT
      obtain ⟨Q, hQ⟩ : ∃ Q, Q = fltQ t M := ⟨_, rfl⟩
      rw [← hQ] at HT
      have DQ := Lib.hid hQ
      clear hQ hlt
      have HE_34 := Lib.hid (ext_trans HE_26.out HO.out)
      clear HE_26
      have X0_35 := Lib.hid ((ext_block HO.out (block_lt X0_27.out)).trans X0_27.out)
      clear X0_27
      have XT_36 := Lib.hid ((ext_block HO.out (block_lt XT_28.out)).trans XT_28.out)
      clear XT_28
      have OA0_37 := Lib.hid (own_ext OA0_29.out HO.out)
      clear OA0_29
      have TD0_38 := Lib.hid (tD_ext TD0_30.out HO.out)
      clear TD0_30
      have CA0_39 := Lib.hid ((ext_block HO.out (block_lt CA0_31.out)).trans CA0_31.out)
      clear CA0_31
      have CM0_40 := Lib.hid ((ext_block HO.out (block_lt CM0_32.out)).trans CM0_32.out)
      clear CM0_32
      have NM_41 := Lib.hid (rowE_ext NM_33.out HO.out)
      clear NM_33
      obtain ⟨uv, ur, su, u1, u2, u3, u4⟩ := HT.out
      obtain ⟨A7, c7, rfl⟩ := rowE_form u2
      obtain ⟨A8, c8, rfl⟩ := rowE_form u3.1
      have hsu := u4.1
      rw [hsu] at u1 u3
      have TDW_42 := Lib.hid ((show TD wi (.agg #[.slice A7 U.length c7, .slice A8 Q.length c8]) U Q from ⟨_, _, rfl, u2, su, u3.1, u4⟩))
      have CW_43 := Lib.hid (show wi.heap[p]? = some (.cells #[.slice A7 U.length c7, .slice A8 Q.length c8] 34 (0, 0)) from u1)
      clear u1 u2 u3 u4 hsu HT HO
      have TBQ := Lib.hid (show Tb 5 8 U Q by rw [DQ.out]; exact tb_flt TB0.out t)
      have HSM := Lib.hid (smallL_of TB0.out.q)
      obtain ⟨JW, hJW⟩ : ∃ K7, K7 = setS J := ⟨_, rfl⟩
      have DJW := Lib.hid (show JW = setS J from hJW)
      clear hJW
      obtain ⟨PS, hPS⟩ : ∃ K7, K7 = M.map (projQ (setS J)) := ⟨_, rfl⟩
      have DPS := Lib.hid (show PS = M.map (projQ (setS J)) from hPS)
      clear hPS
      have TBP := Lib.hid (show Tb 8 8 JW PS by rw [DJW.out]; exact tb_proj TB0.out hJl PS DPS.out)
      have qCA00 : wi.cell? ⟨ca0, 0, none⟩ = some (.slice P0 U.length i0) := block_cell CA0_39.out 0
      have qCA01 : wi.cell? ⟨ca0, 1, none⟩ = some (.slice Q0 M.length j0) := block_cell CA0_39.out 1
      have lCA0 := block_lt CA0_39.out
      go_wp2_with fail
      clear qCA00 qCA01 lCA0
      refine (filtT bt t _ _ ⟨_, _, rfl, own_low (own_ext OA0_37.out (ext_refl _)) (Nat.zero_le _)⟩ XT_36.out (by omega) TB0.out (by omega) (by omega) HSM.out Q DQ.out).mono ?_
      rintro e w7 ⟨A5, c5, B5, d5, rfl, how, hE⟩
      have HE_44 := Lib.hid (ext_trans HE_34.out hE)
      clear HE_34
      have X0_45 := Lib.hid ((ext_block hE (block_lt X0_35.out)).trans X0_35.out)
      clear X0_35
      have XT_46 := Lib.hid ((ext_block hE (block_lt XT_36.out)).trans XT_36.out)
      clear XT_36
      have OA0_47 := Lib.hid (own_ext OA0_37.out hE)
      clear OA0_37
      have TD0_48 := Lib.hid (tD_ext TD0_38.out hE)
      clear TD0_38
      have CA0_49 := Lib.hid ((ext_block hE (block_lt CA0_39.out)).trans CA0_39.out)
      clear CA0_39
      have CM0_50 := Lib.hid ((ext_block hE (block_lt CM0_40.out)).trans CM0_40.out)
      clear CM0_40
      have NM_51 := Lib.hid (rowE_ext NM_41.out hE)
      clear NM_41
      have TDW_52 := Lib.hid (tD_ext TDW_42.out hE)
      clear TDW_42
      have CW_53 := Lib.hid ((ext_block hE (block_lt CW_43.out)).trans CW_43.out)
      clear CW_43
      clear hE
      have OF_54 := Lib.hid (how)
      clear how
      go_wp2
      obtain ⟨W8, hW⟩ : ∃ W, W = w7.alloc (.cells #[.slice A5 U.length c5, .slice B5 Q.length d5] 31) := ⟨_, rfl⟩
      have hE : Ext w7 W8 := by rw [hW]; exact ext_alloc (ext_refl _) _
      obtain ⟨cf, hcf⟩ : ∃ b, b = w7.heap.size := ⟨_, rfl⟩
      have g0 : W8.heap[cf]? = some (.cells #[.slice A5 U.length c5, .slice B5 Q.length d5] 31 (0, 0)) := by rw [hW, hcf]; exact (heap_one w7 (.cells #[.slice A5 U.length c5, .slice B5 Q.length d5] 31))
      have Scf := Lib.hid hcf
      try rw [← hW]
      try rw [← hcf]
      have HE_55 := Lib.hid (ext_trans HE_44.out hE)
      clear HE_44
      have X0_56 := Lib.hid ((ext_block hE (block_lt X0_45.out)).trans X0_45.out)
      clear X0_45
      have XT_57 := Lib.hid ((ext_block hE (block_lt XT_46.out)).trans XT_46.out)
      clear XT_46
      have OA0_58 := Lib.hid (own_ext OA0_47.out hE)
      clear OA0_47
      have TD0_59 := Lib.hid (tD_ext TD0_48.out hE)
      clear TD0_48
      have CA0_60 := Lib.hid ((ext_block hE (block_lt CA0_49.out)).trans CA0_49.out)
      clear CA0_49
      have CM0_61 := Lib.hid ((ext_block hE (block_lt CM0_50.out)).trans CM0_50.out)
      clear CM0_50
      have NM_62 := Lib.hid (rowE_ext NM_51.out hE)
      clear NM_51
      have TDW_63 := Lib.hid (tD_ext TDW_52.out hE)
      clear TDW_52
      have CW_64 := Lib.hid ((ext_block hE (block_lt CW_53.out)).trans CW_53.out)
      clear CW_53
      have OF_65 := Lib.hid (own_ext OF_54.out hE)
      clear OF_54
      have CF_66 := Lib.hid (show W8.heap[cf]? = some (.cells #[.slice A5 U.length c5, .slice B5 Q.length d5] 31 (0, 0)) from g0)
      clear g0 hcf
      clear hE hW
      have TBOF := TBQ
      have qCF0 : W8.cell? ⟨cf, 0, none⟩ = some (.slice A5 U.length c5) := block_cell CF_66.out 0
      have qCF1 : W8.cell? ⟨cf, 1, none⟩ = some (.slice B5 Q.length d5) := block_cell CF_66.out 1
      have lCF := block_lt CF_66.out
      have qCW0 : W8.cell? ⟨p, 0, none⟩ = some (.slice A7 U.length c7) := block_cell CW_64.out 0
      have qCW1 : W8.cell? ⟨p, 1, none⟩ = some (.slice A8 Q.length c8) := block_cell CW_64.out 1
      have lCW := block_lt CW_64.out
      have qCA00 : W8.cell? ⟨ca0, 0, none⟩ = some (.slice P0 U.length i0) := block_cell CA0_60.out 0
      have qCA01 : W8.cell? ⟨ca0, 1, none⟩ = some (.slice Q0 M.length j0) := block_cell CA0_60.out 1
      have lCA0 := block_lt CA0_60.out
      have qCM00 : W8.cell? ⟨cm0, 0, none⟩ = some (.slice D0 U.length k0) := block_cell CM0_61.out 0
      have qCM01 : W8.cell? ⟨cm0, 1, none⟩ = some (.slice G0 M.length o0) := block_cell CM0_61.out 1
      have lCM0 := block_lt CM0_61.out
      have hgc := cell_grown
      have uCF0 : ∀ w', Ext W8 w' → w'.cell? ⟨cf, 0, none⟩ = some (.slice A5 U.length c5) := fun w' hE => (ext_cell hE _ _ lCF).trans qCF0
      have uCF1 : ∀ w', Ext W8 w' → w'.cell? ⟨cf, 1, none⟩ = some (.slice B5 Q.length d5) := fun w' hE => (ext_cell hE _ _ lCF).trans qCF1
      have uCW0 : ∀ w', Ext W8 w' → w'.cell? ⟨p, 0, none⟩ = some (.slice A7 U.length c7) := fun w' hE => (ext_cell hE _ _ lCW).trans qCW0
      have uCW1 : ∀ w', Ext W8 w' → w'.cell? ⟨p, 1, none⟩ = some (.slice A8 Q.length c8) := fun w' hE => (ext_cell hE _ _ lCW).trans qCW1
      have uCA00 : ∀ w', Ext W8 w' → w'.cell? ⟨ca0, 0, none⟩ = some (.slice P0 U.length i0) := fun w' hE => (ext_cell hE _ _ lCA0).trans qCA00
      have uCA01 : ∀ w', Ext W8 w' → w'.cell? ⟨ca0, 1, none⟩ = some (.slice Q0 M.length j0) := fun w' hE => (ext_cell hE _ _ lCA0).trans qCA01
      have uCM00 : ∀ w', Ext W8 w' → w'.cell? ⟨cm0, 0, none⟩ = some (.slice D0 U.length k0) := fun w' hE => (ext_cell hE _ _ lCM0).trans qCM00
      have uCM01 : ∀ w', Ext W8 w' → w'.cell? ⟨cm0, 1, none⟩ = some (.slice G0 M.length o0) := fun w' hE => (ext_cell hE _ _ lCM0).trans qCM01
      refine wp_region_each [] [0, 1] [(2, false, (fun v => v = .bool true), fun _ _ => True), (3, false, (fun v => v = .bool true), fun _ _ => True), (4, false, (fun v => v = (.agg #[.slice P0 U.length i0, .slice Q0 M.length j0])), fun _ _ => True), (5, false, (fun v => v = .slice A4 J.length c4), fun _ _ => True), (6, false, (fun _ => True), fun v w' => TabQ 0 JW PS v w'), (7, false, (fun v => v = (.agg #[.slice D0 U.length k0, .slice G0 M.length o0])), fun _ _ => True), (8, false, (fun v => v = .slice A4 J.length c4), fun _ _ => True), (9, false, (fun _ => True), fun v w' => TD w' v JW PS), (10, false, (fun v => v = .bool true), fun _ _ => True), (11, false, (fun v => v = .bool true), fun _ _ => True), (12, false, (fun v => v = .bool true), fun _ _ => True), (13, false, (fun v => v = (.agg #[.slice P0 U.length i0, .slice Q0 M.length j0])), fun _ _ => True), (14, false, (fun _ => True), TabQ 0 U (distQ M)), (15, false, (fun v => v = (.agg #[.slice D0 U.length k0, .slice G0 M.length o0])), fun _ _ => True), (16, false, (fun _ => True), fun v w' => TD w' v U (distQ M)), (17, false, (fun v => v = .bool true), fun _ _ => True), (18, false, (fun v => v = .bool true), fun _ _ => True), (19, false, (fun v => v = .bool true), fun _ _ => True), (20, false, (fun v => v = (.agg #[.slice P0 U.length i0, .slice Q0 M.length j0])), fun _ _ => True), (21, false, (fun v => v = .func (.func 31) #[] #[]), fun _ _ => True), (22, false, (fun _ => True), TabQ 0 U (sortQ U M)), (23, false, (fun v => v = (.agg #[.slice D0 U.length k0, .slice G0 M.length o0])), fun _ _ => True), (24, false, (fun _ => True), fun v w' => TD w' v U (sortQ U M)), (25, false, (fun v => v = .bool true), fun _ _ => True), (26, false, (fun v => v = .bool true), fun _ _ => True), (27, false, (fun v => v = .bool true), fun _ _ => True), (28, false, (fun v => v = (.agg #[.slice P0 U.length i0, .slice Q0 M.length j0])), fun _ _ => True), (29, false, (fun v => v = (.agg #[.slice D0 U.length k0, .slice G0 M.length o0])), fun _ _ => True), (30, false, (fun v => v = .bool true), fun _ _ => True), (31, false, (fun v => v = .bool true), fun _ _ => True)] [32] [2, 3, 4, 5, 6, 7, 8, 9, 10, 11, 12, 13, 14, 15, 16, 17, 18, 19, 20, 21, 22, 23, 24, 25, 26, 27, 28, 29, 30, 31] rfl (by kernel_rfl) (by kernel_rfl) (fun _ _ d _ _ h => by cases d <;> exact h) ?_
      refine wpPre_nil ?_
      repeat (refine wpLoose_step rfl (fun K hK => ?_); (try simp only [Oper.quietAt, Oper.quietUpon]); go_simp; (refine hK _ ?_; clear hK K))
      refine wpLoose_nil ?_
      clear qCF0 qCF1 lCF qCW0 qCW1 lCW qCA00 qCA01 lCA0 qCM00 qCM01 lCM0 hgc
      refine wpGz_pure1 (fun _ _ _ h h1 w' hw hs => h1 w' hw (h _ hs)) rfl (fun w6 hE6 hS6 => ?_) (fun K hK => ?_)
      · simp only [opAt, runsAt]
        go_simp
        refine (isT _ _ w6 ⟨_, _, rfl, own_low (own_ext OF_65.out hE6) (Nat.zero_le _)⟩ (tD_ext TDW_63.out hE6) TBQ.out (by omega) (by omega)).mono ?_
        rintro e w7 ⟨rfl, h4⟩
        first | exact ⟨rfl, h4⟩ | exact ⟨_, rfl, h4, rfl⟩
      go_simp
      refine hK _ ?_
      clear hK K
      refine wpGz_pure1 (fun _ _ _ h h1 w' hw hs => h1 w' hw (h _ hs)) rfl (fun w6 hE6 hS6 => ?_) (fun K hK => ?_)
      · simp only [opAt, runsAt]
        go_simp
        all_goals (first | exact ⟨ext_refl _, rfl⟩ | exact ext_refl _ | rfl | trivial)
      go_simp
      refine hK _ ?_
      clear hK K
      refine wpGz_pure1 (fun _ _ _ h h1 w' hw hs => h1 w' hw (h _ hs)) rfl (fun w6 hE6 hS6 => ?_) (fun K hK => ?_)
      · simp only [opAt, runsAt]
        go_simp
        all_goals (first | exact ⟨ext_refl _, rfl⟩ | exact ext_refl _ | rfl | trivial)
      go_simp
      refine hK _ ?_
      clear hK K
      refine wpGz_pure1 (fun _ _ _ h h1 w' hw hs => h1 w' hw (h _ hs)) rfl (fun w6 hE6 hS6 => ?_) (fun K hK => ?_)
      · simp only [opAt, runsAt]
        go_simp
        all_goals (first | exact ⟨ext_refl _, rfl⟩ | exact ext_refl _ | rfl | trivial)
      go_simp
      refine hK _ ?_
      clear hK K
      refine wpGz_step1 rfl (fun v a b hE h => tabF_ext v a b hE h) ⟨undef, trivial⟩ (fun w6 hE6 hS6 => ?_) (fun v6 _ K hK => ?_)
      · simp only [opAt, runsAt]
        go_simp
        refine (projT _ _ w6 ⟨_, _, rfl, own_low (own_ext OA0_58.out hE6) (Nat.zero_le _)⟩ (rdS_row (rowE_ext NM_62.out hE6)) DJW.out DPS.out TB0.out (by omega) (by omega) (by omega)).mono ?_
        rintro e w7 ⟨v', rfl, h3, h4⟩
        exact ⟨_, rfl, h4, by obtain ⟨x1, x2, x3, x4⟩ := h3; exact ⟨x1, x2, x3, own_low x4 (Nat.zero_le _)⟩⟩
      go_simp
      refine hK _ ?_
      clear hK K
      refine wpGz_pure1 (fun _ _ _ h h1 w' hw hs => h1 w' hw (h _ hs)) rfl (fun w6 hE6 hS6 => ?_) (fun K hK => ?_)
      · simp only [opAt, runsAt]
        go_simp
        all_goals (first | exact ⟨ext_refl _, rfl⟩ | exact ext_refl _ | rfl | trivial)
      go_simp
      refine hK _ ?_
      clear hK K
      refine wpGz_pure1 (fun _ _ _ h h1 w' hw hs => h1 w' hw (h _ hs)) rfl (fun w6 hE6 hS6 => ?_) (fun K hK => ?_)
      · simp only [opAt, runsAt]
        go_simp
        all_goals (first | exact ⟨ext_refl _, rfl⟩ | exact ext_refl _ | rfl | trivial)
      go_simp
      refine hK _ ?_
      clear hK K
      refine wpGz_step1 rfl (fun v a b hE h => tD_ext h hE) ⟨undef, trivial⟩ (fun w6 hE6 hS6 => ?_) (fun v9 _ K hK => ?_)
      · simp only [opAt, runsAt]
        go_simp
        refine (rprojT _ _ w6 (tD_ext TD0_59.out hE6) (rdS_row (rowE_ext NM_62.out hE6)) DJW.out DPS.out TB0.out (by omega) (by omega) (by omega)).mono ?_
        rintro e w7 ⟨v', rfl, h3, h4⟩
        exact ⟨_, rfl, h4, h3⟩
      go_simp
      refine hK _ ?_
      clear hK K
      refine wpGz_pure1 (fun _ _ _ h h1 w' hw hs => h1 w' hw (h _ hs)) rfl (fun w6 hE6 hS6 => ?_) (fun K hK => ?_)
      · simp only [opAt, runsAt]
        go_simp
        refine (isT _ _ w6 (hS6 _ (List.mem_cons_of_mem _ (List.mem_cons_self ..)) (by kernel_rfl)) (hS6 _ (List.mem_cons_self ..) (by kernel_rfl)) TBP.out (by omega) (by omega)).mono ?_
        rintro e w7 ⟨rfl, h4⟩
        first | exact ⟨rfl, h4⟩ | exact ⟨_, rfl, h4, rfl⟩
      go_simp
      refine hK _ ?_
      clear hK K
      refine wpGz_pure1 (fun _ _ _ h h1 w' hw hs => h1 w' hw (h _ hs)) rfl (fun w6 hE6 hS6 => ?_) (fun K hK => ?_)
      · simp only [opAt, runsAt]
        go_simp
        all_goals (first | exact ⟨ext_refl _, rfl⟩ | exact ext_refl _ | rfl | trivial)
      go_simp
      refine hK _ ?_
      clear hK K
      refine wpGz_pure1 (fun _ _ _ h h1 w' hw hs => h1 w' hw (h _ hs)) rfl (fun w6 hE6 hS6 => ?_) (fun K hK => ?_)
      · simp only [opAt, runsAt]
        go_simp
        all_goals (first | exact ⟨ext_refl _, rfl⟩ | exact ext_refl _ | rfl | trivial)
      go_simp
      refine hK _ ?_
      clear hK K
      refine wpGz_pure1 (fun _ _ _ h h1 w' hw hs => h1 w' hw (h _ hs)) rfl (fun w6 hE6 hS6 => ?_) (fun K hK => ?_)
      · simp only [opAt, runsAt]
        go_simp
        all_goals (first | exact ⟨ext_refl _, rfl⟩ | exact ext_refl _ | rfl | trivial)
      go_simp
      refine hK _ ?_
      clear hK K
      refine wpGz_step1 rfl tabF_ext ⟨undef, trivial⟩ (fun w6 hE6 hS6 => ?_) (fun v14 _ K hK => ?_)
      · simp only [opAt, runsAt]
        go_simp
        refine (distTQ _ w6 ⟨_, _, rfl, own_low (own_ext OA0_58.out hE6) (Nat.zero_le _)⟩ (tabP_ext HTP.out (ext_trans HE_55.out hE6)) TB0.out (by omega) (by omega)).mono ?_
        rintro e w7 ⟨v', rfl, h3, h4⟩
        exact ⟨_, rfl, h4, by obtain ⟨x1, x2, x3, x4⟩ := h3; exact ⟨x1, x2, x3, own_low x4 (Nat.zero_le _)⟩⟩
      go_simp
      refine hK _ ?_
      clear hK K
      refine wpGz_pure1 (fun _ _ _ h h1 w' hw hs => h1 w' hw (h _ hs)) rfl (fun w6 hE6 hS6 => ?_) (fun K hK => ?_)
      · simp only [opAt, runsAt]
        go_simp
        all_goals (first | exact ⟨ext_refl _, rfl⟩ | exact ext_refl _ | rfl | trivial)
      go_simp
      refine hK _ ?_
      clear hK K
      refine wpGz_step1 rfl (fun v a b hE h => tD_ext h hE) ⟨undef, trivial⟩ (fun w6 hE6 hS6 => ?_) (fun v16 _ K hK => ?_)
      · simp only [opAt, runsAt]
        go_simp
        refine (rdistT _ w6 (tD_ext TD0_59.out hE6)  TB0.out (by omega) (by omega)).mono ?_
        rintro e w7 ⟨v', rfl, h3, h4⟩
        exact ⟨_, rfl, h4, h3⟩
      go_simp
      refine hK _ ?_
      clear hK K
      refine wpGz_pure1 (fun _ _ _ h h1 w' hw hs => h1 w' hw (h _ hs)) rfl (fun w6 hE6 hS6 => ?_) (fun K hK => ?_)
      · simp only [opAt, runsAt]
        go_simp
        refine (isT _ _ w6 (hS6 _ (List.mem_cons_of_mem _ (List.mem_cons_self ..)) (by kernel_rfl)) (hS6 _ (List.mem_cons_self ..) (by kernel_rfl)) (tb_keep TB0.out _) (by omega) (by omega)).mono ?_
        rintro e w7 ⟨rfl, h4⟩
        first | exact ⟨rfl, h4⟩ | exact ⟨_, rfl, h4, rfl⟩
      go_simp
      refine hK _ ?_
      clear hK K
      refine wpGz_pure1 (fun _ _ _ h h1 w' hw hs => h1 w' hw (h _ hs)) rfl (fun w6 hE6 hS6 => ?_) (fun K hK => ?_)
      · simp only [opAt, runsAt]
        go_simp
        all_goals (first | exact ⟨ext_refl _, rfl⟩ | exact ext_refl _ | rfl | trivial)
      go_simp
      refine hK _ ?_
      clear hK K
      refine wpGz_pure1 (fun _ _ _ h h1 w' hw hs => h1 w' hw (h _ hs)) rfl (fun w6 hE6 hS6 => ?_) (fun K hK => ?_)
      · simp only [opAt, runsAt]
        go_simp
        all_goals (first | exact ⟨ext_refl _, rfl⟩ | exact ext_refl _ | rfl | trivial)
      go_simp
      refine hK _ ?_
      clear hK K
      refine wpGz_pure1 (fun _ _ _ h h1 w' hw hs => h1 w' hw (h _ hs)) rfl (fun w6 hE6 hS6 => ?_) (fun K hK => ?_)
      · simp only [opAt, runsAt]
        go_simp
        all_goals (first | exact ⟨ext_refl _, rfl⟩ | exact ext_refl _ | rfl | trivial)
      go_simp
      refine hK _ ?_
      clear hK K
      refine wpGz_pure1 (fun _ _ _ h h1 w' hw hs => h1 w' hw (h _ hs)) rfl (fun w6 hE6 hS6 => ?_) (fun K hK => ?_)
      · simp only [opAt, runsAt]
        go_simp
        all_goals (first | exact ⟨ext_refl _, rfl⟩ | exact ext_refl _ | rfl | trivial)
      go_simp
      refine hK _ ?_
      clear hK K
      refine wpGz_step1 rfl tabF_ext ⟨undef, trivial⟩ (fun w6 hE6 hS6 => ?_) (fun v22 _ K hK => ?_)
      · simp only [opAt, runsAt]
        go_simp
        refine (sortTR _ w6 ⟨_, _, rfl, own_low (own_ext OA0_58.out hE6) (Nat.zero_le _)⟩  TB0.out (by omega) (by omega)).mono ?_
        rintro e w7 ⟨v', rfl, h3, h4⟩
        exact ⟨_, rfl, h4, by obtain ⟨x1, x2, x3, x4⟩ := h3; exact ⟨x1, x2, x3, own_low x4 (Nat.zero_le _)⟩⟩
      go_simp
      refine hK _ ?_
      clear hK K
      refine wpGz_pure1 (fun _ _ _ h h1 w' hw hs => h1 w' hw (h _ hs)) rfl (fun w6 hE6 hS6 => ?_) (fun K hK => ?_)
      · simp only [opAt, runsAt]
        go_simp
        all_goals (first | exact ⟨ext_refl _, rfl⟩ | exact ext_refl _ | rfl | trivial)
      go_simp
      refine hK _ ?_
      clear hK K
      refine wpGz_step1 rfl (fun v a b hE h => tD_ext h hE) ⟨undef, trivial⟩ (fun w6 hE6 hS6 => ?_) (fun v24 _ K hK => ?_)
      · simp only [opAt, runsAt]
        go_simp
        refine (rsortT _ w6 (tD_ext TD0_59.out hE6)  TB0.out (by omega) (by omega)).mono ?_
        rintro e w7 ⟨v', rfl, h3, h4⟩
        exact ⟨_, rfl, h4, h3⟩
      go_simp
      refine hK _ ?_
      clear hK K
      refine wpGz_pure1 (fun _ _ _ h h1 w' hw hs => h1 w' hw (h _ hs)) rfl (fun w6 hE6 hS6 => ?_) (fun K hK => ?_)
      · simp only [opAt, runsAt]
        go_simp
        refine (isT _ _ w6 (hS6 _ (List.mem_cons_of_mem _ (List.mem_cons_self ..)) (by kernel_rfl)) (hS6 _ (List.mem_cons_self ..) (by kernel_rfl)) (tb_sort TB0.out) (by omega) (by omega)).mono ?_
        rintro e w7 ⟨rfl, h4⟩
        first | exact ⟨rfl, h4⟩ | exact ⟨_, rfl, h4, rfl⟩
      go_simp
      refine hK _ ?_
      clear hK K
      refine wpGz_pure1 (fun _ _ _ h h1 w' hw hs => h1 w' hw (h _ hs)) rfl (fun w6 hE6 hS6 => ?_) (fun K hK => ?_)
      · simp only [opAt, runsAt]
        go_simp
        all_goals (first | exact ⟨ext_refl _, rfl⟩ | exact ext_refl _ | rfl | trivial)
      go_simp
      refine hK _ ?_
      clear hK K
      refine wpGz_pure1 (fun _ _ _ h h1 w' hw hs => h1 w' hw (h _ hs)) rfl (fun w6 hE6 hS6 => ?_) (fun K hK => ?_)
      · simp only [opAt, runsAt]
        go_simp
        all_goals (first | exact ⟨ext_refl _, rfl⟩ | exact ext_refl _ | rfl | trivial)
      go_simp
      refine hK _ ?_
      clear hK K
      refine wpGz_pure1 (fun _ _ _ h h1 w' hw hs => h1 w' hw (h _ hs)) rfl (fun w6 hE6 hS6 => ?_) (fun K hK => ?_)
      · simp only [opAt, runsAt]
        go_simp
        all_goals (first | exact ⟨ext_refl _, rfl⟩ | exact ext_refl _ | rfl | trivial)
      go_simp
      refine hK _ ?_
      clear hK K
      refine wpGz_pure1 (fun _ _ _ h h1 w' hw hs => h1 w' hw (h _ hs)) rfl (fun w6 hE6 hS6 => ?_) (fun K hK => ?_)
      · simp only [opAt, runsAt]
        go_simp
        all_goals (first | exact ⟨ext_refl _, rfl⟩ | exact ext_refl _ | rfl | trivial)
      go_simp
      refine hK _ ?_
      clear hK K
      refine wpGz_pure1 (fun _ _ _ h h1 w' hw hs => h1 w' hw (h _ hs)) rfl (fun w6 hE6 hS6 => ?_) (fun K hK => ?_)
      · simp only [opAt, runsAt]
        go_simp
        refine (isT _ _ w6 ⟨_, _, rfl, own_low (own_ext OA0_58.out hE6) (Nat.zero_le _)⟩ (tD_ext TD0_59.out hE6) TB0.out (by omega) (by omega)).mono ?_
        rintro e w7 ⟨rfl, h4⟩
        first | exact ⟨rfl, h4⟩ | exact ⟨_, rfl, h4, rfl⟩
      go_simp
      refine hK _ ?_
      clear hK K
      refine wpGz_pure1 (fun _ _ _ h h1 w' hw hs => h1 w' hw (h _ hs)) rfl (fun w6 hE6 hS6 => ?_) (fun K hK => ?_)
      · simp only [opAt, runsAt]
        go_simp
        all_goals (first | exact ⟨ext_refl _, rfl⟩ | exact ext_refl _ | rfl | trivial)
      go_simp
      refine hK _ ?_
      clear hK K
      refine wpGz_nil (fun w6 hE6 hS6 => ?_)
      clear hS6 uCF0 uCF1 uCW0 uCW1 uCA00 uCA01 uCM00 uCM01
      obtain ⟨w9, hw⟩ : ∃ w, w = w6 := ⟨_, rfl⟩
      subst hw
      have HE_67 := Lib.hid (ext_trans HE_55.out hE6)
      clear HE_55
      have X0_68 := Lib.hid ((ext_block hE6 (block_lt X0_56.out)).trans X0_56.out)
      clear X0_56
      have XT_69 := Lib.hid ((ext_block hE6 (block_lt XT_57.out)).trans XT_57.out)
      clear XT_57
      have OA0_70 := Lib.hid (own_ext OA0_58.out hE6)
      clear OA0_58
      have TD0_71 := Lib.hid (tD_ext TD0_59.out hE6)
      clear TD0_59
      have CA0_72 := Lib.hid ((ext_block hE6 (block_lt CA0_60.out)).trans CA0_60.out)
      clear CA0_60
      have CM0_73 := Lib.hid ((ext_block hE6 (block_lt CM0_61.out)).trans CM0_61.out)
      clear CM0_61
      have NM_74 := Lib.hid (rowE_ext NM_62.out hE6)
      clear NM_62
      have TDW_75 := Lib.hid (tD_ext TDW_63.out hE6)
      clear TDW_63
      have CW_76 := Lib.hid ((ext_block hE6 (block_lt CW_64.out)).trans CW_64.out)
      clear CW_64
      have OF_77 := Lib.hid (own_ext OF_65.out hE6)
      clear OF_65
      have CF_78 := Lib.hid ((ext_block hE6 (block_lt CF_66.out)).trans CF_66.out)
      clear CF_66
      clear hE6
      refine wpSeq_of_list [32] [_] _ _ rfl ?_
      go_wp2
      refine bodyPost_ret (results_tmp rfl _ _ _) rfl ?_
      exact ⟨rfl, HE_67.out⟩
end Go.Proofs.YtniggdaakiofeaaDoor
namespace Go.Proofs.YtniggdaakiofeaaDoor
open Go.ChangeShapes Go.WideShapes Go.ChangeAt Go.WideMaps Go.WideElems Go.RowKit

set_option maxRecDepth 100000 in
theorem open_bytes {H : Type} {enc : TypeId × Value → H} {W : World} {base : Nat} {r : Reach} {b0 : Nat} {sp : Nat → Bool} {held : Bool} {v : Value} {d : DataW H} {p : List MemPlace} (hv : Value.okWide Tryd.prog W r b0 22 v) (h : DataW.Trod enc Tryd.prog W base sp held 22 v d p) :
    ∃ L : List Nat, RdU W v L ∧ L.length ≤ maxLen := by
  obtain ⟨a, len, cap, rfl⟩ := okWide_slice Tryd.underlying22 hv
  obtain ⟨fuel, hf⟩ := h
  exact trod_rowU hf
set_option maxRecDepth 100000 in
theorem rows_lifted (os : Os) (started : os.Started) (H : Type) (enc : TypeId × Value → H) :
    ReturnsInHanded {} Tryd.checked os 7 .any (fun w args => (Rows.solutionRowsSpec.pre enc Tryd.prog Tryd.f7 [] false w args ∧ laidMetH Tryd.prog laid3 w) ∧ sizedMet enc Tryd.prog Tryd.f7 (OpenSpec.ofChange Rows.solutionRowsSpec) false w args)
      (Rows.solutionRowsSpec.post enc Tryd.prog Tryd.f7 false true false false) := by
  refine returnsInHanded_of_change_and (C := Tryd.checked) (X := fun w _ => laidMetH Tryd.prog laid3 w) (fun _ _ _ hh h => h.of_heap hh) own started (by kernel_rfl) Tryd.func7
    (ChangeSpec.witness_shaped (enc := enc) (C := Tryd.checked) (os := os) (X := fun w _ => laidMetH Tryd.prog laid3 w) false (World.doorLaid Tryd.prog 24 os) #[.agg #[.slice none 0 0, .slice none 0 0], .slice none 0 0, .int .u8 0] 8 rfl (World.shaped_of_RefB (by kernel_rfl) (by kernel_rfl)) (by kernel_rfl) (by kernel_rfl) (by kernel_rfl) (door_met os _)) ?_
  intro W base args ds gs before hval0 hW _ _ hL _
  have hval : ∀ (j : Nat) t v, Tryd.f7.params[j]? = some t → args[j]? = some v → Value.okWide Tryd.prog W .any base t v := hval0
  have hW' := hW
  obtain ⟨p, q, hA0, hV, rfl, hfz, hnd⟩ := hW
  have hA : DataW.TrodAll enc Tryd.prog W 0 (fun _ => true) true Tryd.f7.params.toList args.toList ds p := hA0
  rw [Tryd.params7] at hA hval
  obtain ⟨v0, vs0, d0, ds0, p0, q0, hargs, rfl, rfl, h0, r0⟩ := trodAll_cons hA
  obtain ⟨v1, vs1, d1, ds1, p1, q1, rfl, rfl, rfl, h1, r1⟩ := trodAll_cons r0
  obtain ⟨v2, vs2, d2, ds2, p2, q2, rfl, rfl, rfl, h2, r2⟩ := trodAll_cons r1
  obtain ⟨rfl, rfl, rfl⟩ := trodAll_nil r2
  obtain rfl : args = #[v0, v1, v2] := by cases args; simp_all
  obtain ⟨rfl, rfl⟩ := trodVars_none hV
  have lt0 : ∀ x ∈ p0, x.block < W.heap.size := by obtain ⟨m, hm⟩ := h0; exact DataW.trod_lt m _ _ _ hm
  obtain ⟨L0, M0, ha0, hl0, hm0, hn0⟩ := open_raw (hval 0 25 v0 rfl rfl) h0
  have lt1 : ∀ x ∈ p1, x.block < W.heap.size := by obtain ⟨m, hm⟩ := h1; exact DataW.trod_lt m _ _ _ hm
  obtain ⟨L1, ha1, hl1⟩ := open_bytes (hval 1 22 v1 rfl rfl) h1
  obtain ⟨o2, rfl, rfl, rfl, w2⟩ := open_int Tryd.underlying5 (hval 2 5 v2 rfl rfl) h2
  have b2 : 0 ≤ o2 ∧ o2 ≤ 255 := bounds_u8 w2
  obtain ⟨t2, rfl⟩ := Int.eq_ofNat_of_zero_le b2.1
  clear hA0 hval0
  refine (rows_law v0 v1 t2 L0 M0 L1 W ha0 ha1 hl0 hm0 hn0 hl1 (by omega) (laid_of hL)).mono fun e W' ⟨he, bel⟩ => ?_
  subst he
  have bel : Below W.heap.size W W' := bel
  exact ⟨_, rfl, _, _, _, [], _, [], hW', trodAll_mk1 (shut_bool Tryd.underlying4 _), (trodAll_cons_mk (Below.trod laidOut (by kernel_rfl) (of_decide_eq_true (by kernel_rfl)) h0 bel lt0) (trodAll_cons_mk (Below.trod laidOut (by kernel_rfl) (of_decide_eq_true (by kernel_rfl)) h1 bel lt1) (trodAll_cons_mk (shut_int Tryd.underlying5 w2) trodAll_mk0))), rfl, bel.frame _, fun h => by cases h⟩

theorem rows_row_holds : Rows.SolutionRowsSaid :=
  OpenClaim.holds_of_wide 7 Tryd.f7 rfl rfl rfl rfl rfl rfl rfl ⟨rfl, rfl, rfl, rfl, rfl⟩ rfl rfl rfl rfl rfl (by kernel_rfl) Tryd.func7 (by kernel_rfl)
    (of_decide_eq_true (by kernel_rfl)) (by unfold Func.isWrapper; first | (rw [if_pos (by decide +kernel)]; kernel_rfl) | (rw [if_neg (by decide +kernel)]; exact ⟨rfl, rfl⟩))
    (fun os started H enc _ => rows_lifted os started H enc)

theorem rows_holds : Rows.SolutionRowsCardSaid :=
  Claim7.holds_tied_plain_at .later [] [.data, .data, .data] true (true, "811115b5137751a59115d0a76d186c9ee974b6775d4f794146eca61a1d024a5a") false
    rows_row_holds (fun _ h => by cases h) (by kernel_rfl) (fun _ h => by cases h) solutionRows_row_tie rfl ⟨rfl, rfl⟩ (by kernel_rfl) rfl
    (fun f fn hf hfn => by
      obtain rfl : f = 7 := Option.some.inj ((show Tryd.prog.funcNamed "beck/becklaw14.SolutionRows" = some 7 by kernel_rfl).symm.trans hf) |>.symm
      obtain rfl : fn = Tryd.f7 := (Option.some.inj (Tryd.func7.symm.trans hfn)).symm
      exact ⟨by kernel_rfl, fun j t ht => by
        rw [Tryd.params7] at ht
        have hm : t ∈ [25, 22, 5] := by simpa using Array.mem_of_getElem? ht
        have hall : ([25, 22, 5].all fun u => !Tryd.prog.wantsStandIn u) = true := by kernel_rfl
        exact (show Tryd.prog.wantsStandIn t = false by simpa using List.all_eq_true.1 hall t hm)⟩)
    (by kernel_rfl)
#print axioms rows_holds
end Go.Proofs.YtniggdaakiofeaaDoor
