/- The document's store: Scan. -/
import Derived.Test.YtfaegjlolhpofaaDoorRh
import Derived.Test.YtfaegjlolhpofaaDoorWj
namespace Go.Proofs.YtfaegjlolhpofaaDoor
open Go.RowKit Go.Sort
set_option maxHeartbeats 800000

def scanF (o : Int) (p : Key) (out : List Key) (k : Key) : List Key := if fitsB p k then insAt out (lb o out k) k else out
def scanL (p : Key) (L : List Key) : List Key := L.foldl (scanF (ordP p) p) []
theorem foldl_take_succ {L : List Key} {j : Nat} (h : j < L.length) (f : List Key → Key → List Key) : (L.take (j + 1)).foldl f [] = f ((L.take j).foldl f []) (kat L j) := by
  have : L.take (j + 1) = L.take j ++ [kat L j] := by
    unfold kat
    rw [List.take_add_one, List.getD_eq_getElem?_getD, List.getElem?_eq_getElem h]; simp
  rw [this, List.foldl_append]
  rfl
theorem scanF_length (o : Int) (p : Key) (out : List Key) (k : Key) : (scanF o p out k).length ≤ out.length + 1 := by
  unfold scanF
  split
  · rw [insAt_length (lb_le o out k)]; omega
  · omega
theorem scan_length (o : Int) (p : Key) : ∀ (L out : List Key), (L.foldl (scanF o p) out).length ≤ out.length + L.length
  | [], out => by simp
  | k :: L, out => by
    have := scan_length o p L (scanF o p out k)
    have h2 := scanF_length o p out k
    simp only [List.foldl_cons, List.length_cons]
    omega

theorem lb_of_less {o : Int} {out : List Key} {k : Key} {i : Nat} (hi : i ≤ out.length) (h1 : ∀ q, q < i → lessB o (kat out q) k = true) (h2 : i < out.length → lessB o (kat out i) k = false) : lb o out k = i := by
  unfold lb
  refine takeWhile_at _ ⟨0, 0, 0⟩ out i hi (fun q hq => ?_) (fun h => ?_)
  · have := h1 q hq
    unfold lessB kat at this
    exact this
  · have := h2 h
    unfold lessB kat at this
    exact this

theorem refscan_row (room : Int) (g cap : Nat) (L : List Key) (p : Key) (w : World) (hr : rowL w (.slice (some ⟨g, 0, none⟩) L.length cap) L) (hm : L.length < 100000) :
    Calls Tryd.prog 22 #[RS room (.slice (some ⟨g, 0, none⟩) L.length cap), K3 p.a p.b p.c] w fun e w' => ∃ lv', e = .returned lv' ∧ rowL w' lv' (scanL p L) ∧ Ext w w' := by
  have HR := Lib.hid hr
  clear hr
  go_enter Tryd.func22, Tryd.ntmps22
  go_wp2_with (go_at_call 11; refine (reforder_any p _).mono ?_; rintro e w1 ⟨rfl, hE⟩; have HE := Lib.hid hE; clear hE; have g0 := (Below.heap_alloc (w.alloc (.cells #[.int .i64 room, .slice (some ⟨g, 0, none⟩) L.length cap] 47)) (.cells #[.int .i64 p.a, .int .i64 p.b, .int .i64 p.c] 22) w.heap.size (by simp)).trans (heap_alloc_new w _); have g1 := heap_alloc_new (w.alloc (.cells #[.int .i64 room, .slice (some ⟨g, 0, none⟩) L.length cap] 47)) (.cells #[.int .i64 p.a, .int .i64 p.b, .int .i64 p.c] 22); rw [World.size_alloc] at g1; have G0 := Lib.hid ((ext_block HE.out (block_lt g0)).trans g0); have G1 := Lib.hid ((ext_block HE.out (block_lt g1)).trans g1); clear g0 g1; have q1 : w1.cell? ⟨w.heap.size, 1, none⟩ = some (.slice (some ⟨g, 0, none⟩) L.length cap) := block_cell G0.out 1; have m0 := block_lt G0.out; have m1 := block_lt G1.out)
  have HE0 := Lib.hid (ext_trans (ext_alloc (ext_alloc (ext_refl w) (.cells #[.int .i64 room, .slice (some ⟨g, 0, none⟩) L.length cap] 47)) (.cells #[.int .i64 p.a, .int .i64 p.b, .int .i64 p.c] 22)) HE.out)
  clear q1
  go_loopw [18, 5] (fun x y wr => ∃ (j : Nat) (A : Option Addr) (c : Nat) (out : List Key), j ≤ L.length ∧ x = .int .i64 j ∧ out = (L.take j).foldl (scanF (ordP p) p) [] ∧ y = .slice A out.length c ∧ rowL wr (.slice A out.length c) out ∧ Ext w1 wr) (fun x _ _ => L.length - (intOf x).toNat)
  case atStart => exact ⟨0, none, 0, [], by omega, rfl, rfl, rfl, World.ownsRow_nil _ _ _ _, ext_refl _⟩
  case round =>
    rename World => wo
    obtain ⟨j, A, c, out, hj, rfl, hout, rfl, hrow, hEr⟩ := hrel
    have HROW := Lib.hid hrow
    have HEr := Lib.hid hEr
    have HOUT := Lib.hid hout
    clear hrow hEr hout
    by_cases hlt : j < L.length
    · have hji : (j : Int) < (L.length : Int) := by omega
      have hj0 : (0 : Int) ≤ (j : Int) := by omega
      obtain ⟨k, hk⟩ : ∃ k, kat L j = k := ⟨_, rfl⟩
      have hgw := rowL_block HR.out
      obtain ⟨k0, k1, k2⟩ := rowL_keysIn HR.out j hlt
      have HEw := Lib.hid (ext_trans HE0.out HEr.out)
      have q0 := (ext_cell HEw.out _ _ hgw).trans k0
      have q1 := (ext_cell HEw.out _ _ hgw).trans k1
      have q2 := (ext_cell HEw.out _ _ hgw).trans k2
      rw [hk] at q0 q1 q2
      have HK := Lib.hid hk
      clear hk k0 k1 k2
      have s1 : wo.cell? ⟨w.heap.size, 1, none⟩ = some (.slice (some ⟨g, 0, none⟩) L.length cap) := (ext_cell HEr.out _ _ m0).trans (block_cell G0.out 1)
      have lg : g < wo.heap.size := ext_lt HEw.out hgw
      have ls : w.heap.size < wo.heap.size := ext_lt HEr.out m0
      go_wp2
      clear q0 q1 q2 s1
      have hbk := heap_alloc_new wo (.cells #[.int .i64 k.a, .int .i64 k.b, .int .i64 k.c] 22)
      have HBK := Lib.hid hbk
      clear hbk
      have HEa := Lib.hid (ext_alloc (ext_refl wo) (.cells #[.int .i64 k.a, .int .i64 k.b, .int .i64 k.c] 22))
      refine wp_gen (fun W2 hW2 => ?_)
      rw [← hW2] at HBK HEa
      clear hW2
      go_loopw [26, 9] (fun x y w2 => ((x = .int .i64 0 ∧ y = .bool true) ∨ (x = .int .i64 1 ∧ y = .bool (fit1 p.a k.a)) ∨ (x = .int .i64 2 ∧ y = .bool (fit1 p.a k.a && fit1 p.b k.b)) ∨ (x = .int .i64 3 ∧ y = .bool (fitsB p k))) ∧ Ext W2 w2) (fun x _ _ => 3 - (intOf x).toNat)
      case atStart => exact ⟨.inl ⟨rfl, rfl⟩, ext_refl _⟩
      case round =>
        rename World => w2
        obtain ⟨hx, hE2⟩ := hrel
        have hgc := cell_grown
        have HE2 := Lib.hid hE2
        clear hE2
        have HE12 := Lib.hid (ext_trans HEr.out (ext_trans HEa.out HE2.out))
        have lbk := block_lt HBK.out
        have l1 : w.heap.size + 1 < w2.heap.size := ext_lt HE12.out m1
        have l2 : wo.heap.size < w2.heap.size := ext_lt HE2.out lbk
        rcases hx with ⟨rfl, rfl⟩ | ⟨rfl, rfl⟩ | ⟨rfl, rfl⟩ | ⟨rfl, rfl⟩
        · have c0 : w2.cell? ⟨w.heap.size + 1, 0, none⟩ = some (.int .i64 p.a) := (ext_cell HE12.out _ _ m1).trans (block_cell G1.out 0)
          have d0 : w2.cell? ⟨wo.heap.size, 0, none⟩ = some (.int .i64 k.a) := (ext_cell HE2.out _ _ lbk).trans (block_cell HBK.out 0)
          by_cases hn : p.a < 0
          · have hd : decide (0 ≤ p.a) = false := by simp; omega
            go_wp2
            refine wp_region_free 13 [0, 1, 2, 3, 4, 5, 6, 7, 8, 9, 10, 11, 12] [] (by kernel_rfl) (by kernel_rfl) ?_
            repeat (refine wpLoose_step rfl (fun K hK => ?_); (try simp only [Oper.quietAt, Oper.quietUpon]); go_simp; (refine hK _ ?_; clear hK K))
            refine wpLoose_nil (wpFresh_nil (fun w3 hE3 _ => ?_))
            have HE3 := Lib.hid hE3
            clear hE3
            simp only [List.drop_succ_cons, List.drop_zero]
            refine wpList_nil ?_
            go_wp2
            go_roundw
            case rel => exact ⟨.inr (.inl ⟨rfl, by rw [fit1_true (p := p.a) (k := k.a) (.inl hn)]⟩), ext_trans HE2.out HE3.out⟩
            case measure => simp [intOf]
          have hp : 0 ≤ p.a := by omega
          have hd : decide (0 ≤ p.a) = true := by simp; omega
          by_cases he : p.a = k.a
          · have hb : (p.a != k.a) = false := by simp [he]
            have HEQ := Lib.hid he
            clear he
            go_wp2
            refine wp_region_free 13 [0, 1, 2, 3, 4, 5, 6, 7, 8, 9, 10, 11, 12] [] (by kernel_rfl) (by kernel_rfl) ?_
            repeat (refine wpLoose_step rfl (fun K hK => ?_); (try simp only [Oper.quietAt, Oper.quietUpon]); go_simp; (refine hK _ ?_; clear hK K))
            refine wpLoose_nil (wpFresh_nil (fun w3 hE3 _ => ?_))
            have HE3 := Lib.hid hE3
            clear hE3
            simp only [List.drop_succ_cons, List.drop_zero]
            refine wpList_nil ?_
            go_wp2
            go_roundw
            case rel => exact ⟨.inr (.inl ⟨rfl, by rw [fit1_true (p := p.a) (k := k.a) (.inr HEQ.out)]⟩), ext_trans HE2.out HE3.out⟩
            case measure => simp [intOf]
          · have hb : (p.a != k.a) = true := by simp [he]
            have HNE := Lib.hid he
            clear he
            go_wp2
            refine wp_region_free 13 [0, 1, 2, 3, 4, 5, 6, 7, 8, 9, 10, 11, 12] [] (by kernel_rfl) (by kernel_rfl) ?_
            repeat (refine wpLoose_step rfl (fun K hK => ?_); (try simp only [Oper.quietAt, Oper.quietUpon]); go_simp; (refine hK _ ?_; clear hK K))
            refine wpLoose_nil (wpFresh_nil (fun w3 hE3 _ => ?_))
            have HE3 := Lib.hid hE3
            clear hE3
            simp only [List.drop_succ_cons, List.drop_zero]
            refine wpList_nil ?_
            go_wp2
            go_roundw
            case rel => exact ⟨.inr (.inl ⟨rfl, by rw [fit1_false (p := p.a) (k := k.a) (fun h => h.elim (by omega) HNE.out)]⟩), ext_trans HE2.out HE3.out⟩
            case measure => simp [intOf]
        · have c0 : w2.cell? ⟨w.heap.size + 1, 1, none⟩ = some (.int .i64 p.b) := (ext_cell HE12.out _ _ m1).trans (block_cell G1.out 1)
          have d0 : w2.cell? ⟨wo.heap.size, 1, none⟩ = some (.int .i64 k.b) := (ext_cell HE2.out _ _ lbk).trans (block_cell HBK.out 1)
          by_cases hn : p.b < 0
          · have hd : decide (0 ≤ p.b) = false := by simp; omega
            go_wp2
            refine wp_region_free 13 [0, 1, 2, 3, 4, 5, 6, 7, 8, 9, 10, 11, 12] [] (by kernel_rfl) (by kernel_rfl) ?_
            repeat (refine wpLoose_step rfl (fun K hK => ?_); (try simp only [Oper.quietAt, Oper.quietUpon]); go_simp; (refine hK _ ?_; clear hK K))
            refine wpLoose_nil (wpFresh_nil (fun w3 hE3 _ => ?_))
            have HE3 := Lib.hid hE3
            clear hE3
            simp only [List.drop_succ_cons, List.drop_zero]
            refine wpList_nil ?_
            go_wp2
            go_roundw
            case rel => exact ⟨.inr (.inr (.inl ⟨rfl, by rw [fit1_true (p := p.b) (k := k.b) (.inl hn)]; try simp⟩)), ext_trans HE2.out HE3.out⟩
            case measure => simp [intOf]
          have hp : 0 ≤ p.b := by omega
          have hd : decide (0 ≤ p.b) = true := by simp; omega
          by_cases he : p.b = k.b
          · have hb : (p.b != k.b) = false := by simp [he]
            have HEQ := Lib.hid he
            clear he
            go_wp2
            refine wp_region_free 13 [0, 1, 2, 3, 4, 5, 6, 7, 8, 9, 10, 11, 12] [] (by kernel_rfl) (by kernel_rfl) ?_
            repeat (refine wpLoose_step rfl (fun K hK => ?_); (try simp only [Oper.quietAt, Oper.quietUpon]); go_simp; (refine hK _ ?_; clear hK K))
            refine wpLoose_nil (wpFresh_nil (fun w3 hE3 _ => ?_))
            have HE3 := Lib.hid hE3
            clear hE3
            simp only [List.drop_succ_cons, List.drop_zero]
            refine wpList_nil ?_
            go_wp2
            go_roundw
            case rel => exact ⟨.inr (.inr (.inl ⟨rfl, by rw [fit1_true (p := p.b) (k := k.b) (.inr HEQ.out)]; try simp⟩)), ext_trans HE2.out HE3.out⟩
            case measure => simp [intOf]
          · have hb : (p.b != k.b) = true := by simp [he]
            have HNE := Lib.hid he
            clear he
            go_wp2
            refine wp_region_free 13 [0, 1, 2, 3, 4, 5, 6, 7, 8, 9, 10, 11, 12] [] (by kernel_rfl) (by kernel_rfl) ?_
            repeat (refine wpLoose_step rfl (fun K hK => ?_); (try simp only [Oper.quietAt, Oper.quietUpon]); go_simp; (refine hK _ ?_; clear hK K))
            refine wpLoose_nil (wpFresh_nil (fun w3 hE3 _ => ?_))
            have HE3 := Lib.hid hE3
            clear hE3
            simp only [List.drop_succ_cons, List.drop_zero]
            refine wpList_nil ?_
            go_wp2
            go_roundw
            case rel => exact ⟨.inr (.inr (.inl ⟨rfl, by rw [fit1_false (p := p.b) (k := k.b) (fun h => h.elim (by omega) HNE.out)]; try simp⟩)), ext_trans HE2.out HE3.out⟩
            case measure => simp [intOf]
        · have c0 : w2.cell? ⟨w.heap.size + 1, 2, none⟩ = some (.int .i64 p.c) := (ext_cell HE12.out _ _ m1).trans (block_cell G1.out 2)
          have d0 : w2.cell? ⟨wo.heap.size, 2, none⟩ = some (.int .i64 k.c) := (ext_cell HE2.out _ _ lbk).trans (block_cell HBK.out 2)
          by_cases hn : p.c < 0
          · have hd : decide (0 ≤ p.c) = false := by simp; omega
            go_wp2
            refine wp_region_free 13 [0, 1, 2, 3, 4, 5, 6, 7, 8, 9, 10, 11, 12] [] (by kernel_rfl) (by kernel_rfl) ?_
            repeat (refine wpLoose_step rfl (fun K hK => ?_); (try simp only [Oper.quietAt, Oper.quietUpon]); go_simp; (refine hK _ ?_; clear hK K))
            refine wpLoose_nil (wpFresh_nil (fun w3 hE3 _ => ?_))
            have HE3 := Lib.hid hE3
            clear hE3
            simp only [List.drop_succ_cons, List.drop_zero]
            refine wpList_nil ?_
            go_wp2
            go_roundw
            case rel => exact ⟨.inr (.inr (.inr ⟨rfl, by unfold fitsB; rw [fit1_true (p := p.c) (k := k.c) (.inl hn)]; try simp⟩)), ext_trans HE2.out HE3.out⟩
            case measure => simp [intOf]
          have hp : 0 ≤ p.c := by omega
          have hd : decide (0 ≤ p.c) = true := by simp; omega
          by_cases he : p.c = k.c
          · have hb : (p.c != k.c) = false := by simp [he]
            have HEQ := Lib.hid he
            clear he
            go_wp2
            refine wp_region_free 13 [0, 1, 2, 3, 4, 5, 6, 7, 8, 9, 10, 11, 12] [] (by kernel_rfl) (by kernel_rfl) ?_
            repeat (refine wpLoose_step rfl (fun K hK => ?_); (try simp only [Oper.quietAt, Oper.quietUpon]); go_simp; (refine hK _ ?_; clear hK K))
            refine wpLoose_nil (wpFresh_nil (fun w3 hE3 _ => ?_))
            have HE3 := Lib.hid hE3
            clear hE3
            simp only [List.drop_succ_cons, List.drop_zero]
            refine wpList_nil ?_
            go_wp2
            go_roundw
            case rel => exact ⟨.inr (.inr (.inr ⟨rfl, by unfold fitsB; rw [fit1_true (p := p.c) (k := k.c) (.inr HEQ.out)]; try simp⟩)), ext_trans HE2.out HE3.out⟩
            case measure => simp [intOf]
          · have hb : (p.c != k.c) = true := by simp [he]
            have HNE := Lib.hid he
            clear he
            go_wp2
            refine wp_region_free 13 [0, 1, 2, 3, 4, 5, 6, 7, 8, 9, 10, 11, 12] [] (by kernel_rfl) (by kernel_rfl) ?_
            repeat (refine wpLoose_step rfl (fun K hK => ?_); (try simp only [Oper.quietAt, Oper.quietUpon]); go_simp; (refine hK _ ?_; clear hK K))
            refine wpLoose_nil (wpFresh_nil (fun w3 hE3 _ => ?_))
            have HE3 := Lib.hid hE3
            clear hE3
            simp only [List.drop_succ_cons, List.drop_zero]
            refine wpList_nil ?_
            go_wp2
            go_roundw
            case rel => exact ⟨.inr (.inr (.inr ⟨rfl, by unfold fitsB; rw [fit1_false (p := p.c) (k := k.c) (fun h => h.elim (by omega) HNE.out)]; try simp⟩)), ext_trans HE2.out HE3.out⟩
            case measure => simp [intOf]
        · have hFF : fitsB p k = false ∨ fitsB p k = true := by cases fitsB p k <;> simp
          rcases hFF with hff | hff
          · have HFF := Lib.hid hff
            rw [hff]
            clear hff
            go_wp2
            go_roundw
            case rel => exact ⟨j + 1, A, c, out, by omega, by go_num, by rw [foldl_take_succ hlt, HK.out, ← HOUT.out]; unfold scanF; rw [HFF.out]; rfl, rfl, row_ext HROW.out (ext_trans HEa.out HE2.out), HE12.out⟩
            case measure => simp [intOf]; omega
          · have HFF := Lib.hid hff
            rw [hff]
            clear hff
            go_wp2
            have HBK2 := Lib.hid ((ext_block HE2.out lbk).trans HBK.out)
            have HROW2 := Lib.hid (row_ext HROW.out (ext_trans HEa.out HE2.out))
            have hol : out.length ≤ j := by
              rw [HOUT.out]
              have := scan_length (ordP p) p (L.take j) []
              simp at this
              omega
            clear hgc
            rcases rowL_cases HROW2.out with ⟨h1, h2⟩ | ⟨g2, cap2, cur2, h1, _⟩
            · have hA : A = none ∧ out.length = 0 ∧ c = 0 := by simpa only [Value.slice.injEq] using h1
              rw [hA.1, hA.2.1, hA.2.2]
              have HA := Lib.hid hA
              have HO := Lib.hid h2
              have HLB : Hid (lb (ordP p) out k = 0) := Lib.hid (by rw [h2]; rfl)
              clear h1 h2 hA
              go_loopw [11] (fun x w3 => x = .int .i64 0 ∧ Ext w2 w3) (fun _ _ => 0)
              case atStart => exact ⟨rfl, ext_refl _⟩
              case round =>
                rename World => w3
                obtain ⟨rfl, hE3⟩ := hrel
                have HE3 := Lib.hid hE3
                clear hE3
                have hgc := cell_grown
                go_wp2
                refine wp_region_free 13 [0, 1, 2, 3, 4, 5, 6, 7, 8, 9, 10, 11, 12] [] (by kernel_rfl) (by kernel_rfl) ?_
                repeat (refine wpLoose_step rfl (fun K hK => ?_); (try simp only [Oper.quietAt, Oper.quietUpon]); go_simp; (refine hK _ ?_; clear hK K))
                refine wpLoose_nil (wpFresh_nil (fun w4 hE4 _ => ?_))
                have HE4 := Lib.hid (ext_trans HE3.out hE4)
                clear hE4
                simp only [List.drop_succ_cons, List.drop_zero]
                refine wpList_nil ?_
                have HE24 := Lib.hid (ext_trans HE12.out HE4.out)
                have hgc := cell_grown
                go_wp2_with (at_builtin; refine wpList_copy2 rfl (.tmp 60) (.tmp 63) rfl w4.heap.size w4.heap.size rfl _ [] rfl (⟨none, 0, rfl, fun h => absurd rfl h⟩) (by simp) (heap_alloc_new w4 _) (Nat.le_refl _) ?_; intro v5 w5 hE5 hR5; have HE5 := Lib.hid (ext_trans (ext_alloc (ext_refl w4) (.cells #[] 22)) hE5); have HR5 := Lib.hid hR5; clear hE5 hR5)
                all_goals
                  have l45 := ext_size HE5.out
                  have l5 : wo.heap.size < w5.heap.size := by have := ext_lt HE4.out l2; omega
                  have HBK5 := Lib.hid ((ext_block (ext_trans HE4.out HE5.out) l2).trans HBK2.out)
                  have d0 : w5.cell? ⟨wo.heap.size, 0, none⟩ = some (.int .i64 k.a) := block_cell HBK5.out 0
                  have d1 : w5.cell? ⟨wo.heap.size, 1, none⟩ = some (.int .i64 k.b) := block_cell HBK5.out 1
                  have d2 : w5.cell? ⟨wo.heap.size, 2, none⟩ = some (.int .i64 k.c) := block_cell HBK5.out 2
                  refine wp_region_gen [] [0, 1, 2, 3, 4, 7] [(5, oneF w5.heap.size k), (6, rowF w5.heap.size [k])] [8, 9] [5, 6] rfl (by kernel_rfl) (by kernel_rfl) (fun _ _ d _ _ h => by cases d <;> exact h) ?_
                  refine wpPre_nil ?_
                  repeat (refine wpLoose_step rfl (fun K hK => ?_); (try simp only [Oper.quietAt, Oper.quietUpon]); go_simp; (refine hK _ ?_; clear hK K))
                  refine wpLoose_nil ?_
                  refine wpGen_step rfl rfl oneF_ext (fun w6 hE6 hS6 => ?_) (fun v1 => ?_)
                  · simp only [runsAt]
                    go_simp
                    exact ⟨ext_alloc (ext_refl _) _, _, rfl, ext_size hE6, heap_alloc_new w6 _⟩
                  refine wpGen_step rfl rfl rowF_ext (fun w6 hE6 hS6 => ?_) (fun v2 => ?_)
                  · exact runs_full (sv := .slice none 0 0) (L := []) (.tmp 68) (.tmp 70) rfl rfl rfl none rfl ⟨none, 0, rfl, fun h => absurd rfl h⟩ (by simp) (hS6 _ (List.mem_cons_self ..) (by kernel_rfl)) (ext_size hE6)
                  refine wpGen_nil (fun w6 hE6 hS6 => ?_)
                  have hr6 := hS6 _ (List.mem_cons_self ..)
                  have HR6 := Lib.hid (show rowF w5.heap.size [k] v2 w6 from hr6)
                  have HE6 := Lib.hid hE6
                  clear hS6 hE6 hr6 d0 d1 d2
                  refine wpSeq_of_list [8, 9] [_, _] _ _ rfl ?_
                  refine wpList_onto rfl (.tmp 71) (.tmp 72) rfl w5.heap.size v2 [k] [] rfl HR6.out v5 rfl (srcOf_row (row_ext HR5.out.1 HE6.out)) (by simp) (ext_size HE6.out) ?_
                  intro v7 w7 hR7 hgr7
                  have hins : [k] ++ [] = insAt out 0 k := by rw [HO.out]; rfl
                  rw [hins] at hR7
                  obtain ⟨A7, c7, hv7⟩ : ∃ A7 c7, v7 = .slice A7 (insAt out 0 k).length c7 := by
                    rcases rowL_cases hR7.1 with ⟨h, h2⟩ | ⟨_, _, _, h, _⟩
                    · exact ⟨_, _, by rw [h2]; exact h⟩
                    · exact ⟨_, _, h⟩
                  subst hv7
                  have HR7 := Lib.hid hR7
                  have HGR7 := Lib.hid hgr7
                  clear hR7 hgr7 hins
                  have HE7 : Hid (Ext w1 w7) := Lib.hid (Below.grown (ext_trans HE24.out (ext_trans HE5.out HE6.out)) HGR7.out (ext_size (ext_trans HE24.out (ext_trans HE5.out HE6.out))) (fun g e => by have := HR6.out.2 _ e; have := ext_size HE24.out; omega))
                  go_wp2
                  go_roundw
                  case rel => exact ⟨j + 1, A7, c7, insAt out 0 k, by omega, by go_num, by rw [foldl_take_succ hlt, HK.out, ← HOUT.out]; unfold scanF; rw [HFF.out, HLB.out]; rfl, rfl, HR7.out.1, HE7.out⟩
                  case measure => simp [intOf]; omega
            · have hA : A = some ⟨g2, 0, none⟩ := by simp only [Value.slice.injEq] at h1; exact h1.1
              have hROW3 := HROW2.out
              rw [hA] at hROW3
              have HROW3 := Lib.hid hROW3
              rw [hA]
              have HA := Lib.hid hA
              clear hA h1 hROW3
              go_loopw [11] (fun x w3 => ∃ i : Nat, i ≤ out.length ∧ x = .int .i64 i ∧ (∀ q, q < i → lessB (ordP p) (kat out q) k = true) ∧ Ext w2 w3) (fun x _ => out.length - (intOf x).toNat)
              case atStart => exact ⟨0, by omega, rfl, fun q h => by omega, ext_refl _⟩
              case round =>
                rename World => w3
                obtain ⟨i, hi, rfl, hless, hE3⟩ := hrel
                have HE3 := Lib.hid hE3
                have HLESS := Lib.hid hless
                clear hE3 hless
                have hgc := cell_grown
                have d0 : w3.cell? ⟨wo.heap.size, 0, none⟩ = some (.int .i64 k.a) := (ext_cell HE3.out _ _ l2).trans (block_cell HBK2.out 0)
                have d1 : w3.cell? ⟨wo.heap.size, 1, none⟩ = some (.int .i64 k.b) := (ext_cell HE3.out _ _ l2).trans (block_cell HBK2.out 1)
                have d2 : w3.cell? ⟨wo.heap.size, 2, none⟩ = some (.int .i64 k.c) := (ext_cell HE3.out _ _ l2).trans (block_cell HBK2.out 2)
                have lg2 := rowL_block (row_ext HROW3.out HE3.out)
                have l3 : wo.heap.size < w3.heap.size := ext_lt HE3.out l2
                have hi0 : (0 : Int) ≤ (i : Int) := by omega
                by_cases hil : i < out.length
                · have hii : (i : Int) < (out.length : Int) := by omega
                  obtain ⟨y, hy⟩ : ∃ y, kat out i = y := ⟨_, rfl⟩
                  obtain ⟨k0, k1, k2⟩ := rowL_keysIn (row_ext HROW3.out HE3.out) i hil
                  rw [hy] at k0 k1 k2
                  have HY := Lib.hid hy
                  clear hy
                  go_wp2
                  refine wp_region_free 13 [0, 1, 2, 3, 4, 5, 6, 7, 8, 9, 10, 11, 12] [] (by kernel_rfl) (by kernel_rfl) ?_
                  repeat (refine wpLoose_step rfl (fun K hK => ?_); (try simp only [Oper.quietAt, Oper.quietUpon]); go_simp; first | (refine hK _ ?_; clear hK K) | (apply Exists.intro; refine ⟨fun pp => ?_, hK _ ?_⟩; (go_at_call 13; refine refless_any (ordP p) y k _); clear hK K))
                  refine wpLoose_nil (wpFresh_nil (fun w4 hE4 _ => ?_))
                  have HE4 := Lib.hid (ext_trans HE3.out hE4)
                  clear hE4 k0 k1 k2 d0 d1 d2
                  simp only [List.drop_succ_cons, List.drop_zero]
                  refine wpList_nil ?_
                  have hLS : lessB (ordP p) y k = true ∨ lessB (ordP p) y k = false := by cases lessB (ordP p) y k <;> simp
                  rcases hLS with hls | hls
                  · rw [hls]
                    have HLS := Lib.hid hls
                    clear hls
                    go_wp2
                    go_roundw
                    case rel =>
                      refine ⟨i + 1, by omega, by go_num, fun q hq => ?_, HE4.out⟩
                      rcases Nat.lt_or_ge q i with h | h
                      · exact HLESS.out q h
                      · obtain rfl : q = i := by omega
                        rw [HY.out]; exact HLS.out
                    case measure => simp [intOf]; omega
                  · rw [hls]
                    have HLB := Lib.hid (lb_of_less (o := ordP p) hi HLESS.out (fun _ => by rw [HY.out]; exact hls))
                    clear hls HY
                    have HE24 := Lib.hid (ext_trans HE12.out HE4.out)
                    have hgc := cell_grown
                    have HROW4 := Lib.hid (row_ext HROW3.out HE4.out)
                    have hcap : out.length ≤ c := by
                      rcases rowL_cases HROW4.out with ⟨h, _⟩ | ⟨_, _, _, h, _, h2, _⟩
                      · cases h
                      · simp only [Value.slice.injEq] at h; rw [h.2.2]; exact h2
                    have hic : i ≤ c := by omega
                    have hic' : (i : Int) ≤ (c : Int) := by omega
                    have hil' : (i : Int) ≤ (out.length : Int) := by omega
                    go_wp2_with (at_builtin; refine wpList_copy2 rfl (.tmp 60) (.tmp 63) rfl w4.heap.size w4.heap.size rfl _ (out.drop i) rfl (srcOf_ext (ext_alloc (ext_refl _) _) (srcOf_drop i HROW4.out _ _ _ (by simp) (fun h => by first | rfl | omega))) (by simp; omega) (heap_alloc_new w4 _) (Nat.le_refl _) ?_; intro v5 w5 hE5 hR5; have HE5 := Lib.hid (ext_trans (ext_alloc (ext_refl w4) (.cells #[] 22)) hE5); have HR5 := Lib.hid hR5; clear hE5 hR5)
                    all_goals
                      have l45 := ext_size HE5.out
                      have l5 : wo.heap.size < w5.heap.size := by have := ext_lt HE4.out l2; omega
                      have lg5 : g2 < w5.heap.size := by have := rowL_block HROW4.out; omega
                      have HBK5 := Lib.hid ((ext_block (ext_trans HE4.out HE5.out) l2).trans HBK2.out)
                      have d0 : w5.cell? ⟨wo.heap.size, 0, none⟩ = some (.int .i64 k.a) := block_cell HBK5.out 0
                      have d1 : w5.cell? ⟨wo.heap.size, 1, none⟩ = some (.int .i64 k.b) := block_cell HBK5.out 1
                      have d2 : w5.cell? ⟨wo.heap.size, 2, none⟩ = some (.int .i64 k.c) := block_cell HBK5.out 2
                      have hltk : (out.take i).length = i := by rw [List.length_take]; omega
                      have HLTK := Lib.hid hltk
                      clear hltk
                      refine wp_region_gen [] [0, 1, 2, 3, 4, 7] [(5, oneF w5.heap.size k), (6, rowF w5.heap.size (out.take i ++ [k]))] [8, 9] [5, 6] rfl (by kernel_rfl) (by kernel_rfl) (fun _ _ d _ _ h => by cases d <;> exact h) ?_
                      refine wpPre_nil ?_
                      repeat (refine wpLoose_step rfl (fun K hK => ?_); (try simp only [Oper.quietAt, Oper.quietUpon]); go_simp; (refine hK _ ?_; clear hK K))
                      refine wpLoose_nil ?_
                      refine wpGen_step rfl rfl oneF_ext (fun w6 hE6 hS6 => ?_) (fun v1 => ?_)
                      · simp only [runsAt]
                        go_simp
                        exact ⟨ext_alloc (ext_refl _) _, _, rfl, ext_size hE6, heap_alloc_new w6 _⟩
                      refine wpGen_step rfl rfl rowF_ext (fun w6 hE6 hS6 => ?_) (fun v2 => ?_)
                      · exact runs_full (sv := .slice (some ⟨g2, 0, none⟩) i i) (.tmp 68) (.tmp 70) rfl rfl rfl (some ⟨g2, 0, none⟩) (by rw [HLTK.out]) (srcOf_take i (by omega) (row_ext HROW4.out (ext_trans HE5.out hE6))) (by rw [HLTK.out]; omega) (hS6 _ (List.mem_cons_self ..) (by kernel_rfl)) (ext_size hE6)
                      refine wpGen_nil (fun w6 hE6 hS6 => ?_)
                      have hr6 := hS6 _ (List.mem_cons_self ..)
                      have HR6 := Lib.hid (show rowF w5.heap.size (out.take i ++ [k]) v2 w6 from hr6)
                      have HE6 := Lib.hid hE6
                      clear hS6 hE6 hr6 d0 d1 d2
                      refine wpSeq_of_list [8, 9] [_, _] _ _ rfl ?_
                      refine wpList_onto rfl (.tmp 71) (.tmp 72) rfl w5.heap.size v2 (out.take i ++ [k]) (out.drop i) rfl HR6.out v5 rfl (srcOf_row (row_ext HR5.out.1 HE6.out)) (by rw [List.length_append, List.length_drop, HLTK.out]; simp; omega) (ext_size HE6.out) ?_
                      intro v7 w7 hR7 hgr7
                      have hins : out.take i ++ [k] ++ out.drop i = insAt out i k := by unfold insAt; simp
                      rw [hins] at hR7
                      obtain ⟨A7, c7, hv7⟩ : ∃ A7 c7, v7 = .slice A7 (insAt out i k).length c7 := by
                        rcases rowL_cases hR7.1 with ⟨h, h2⟩ | ⟨_, _, _, h, _⟩
                        · exact ⟨_, _, by rw [h2]; exact h⟩
                        · exact ⟨_, _, h⟩
                      subst hv7
                      have HR7 := Lib.hid hR7
                      have HGR7 := Lib.hid hgr7
                      clear hR7 hgr7 hins
                      have HE7 : Hid (Ext w1 w7) := Lib.hid (Below.grown (ext_trans HE24.out (ext_trans HE5.out HE6.out)) HGR7.out (ext_size (ext_trans HE24.out (ext_trans HE5.out HE6.out))) (fun g e => by have := HR6.out.2 _ e; have := ext_size HE24.out; omega))
                      go_wp2
                      go_roundw
                      case rel => exact ⟨j + 1, A7, c7, insAt out i k, by omega, by go_num, by rw [foldl_take_succ hlt, HK.out, ← HOUT.out]; unfold scanF; rw [HFF.out, HLB.out]; rfl, rfl, HR7.out.1, HE7.out⟩
                      case measure => simp [intOf]; omega
                · have hie : i = out.length := by omega
                  have hd1 : decide ((i : Int) < (out.length : Int)) = false := by simp; omega
                  have hd2 : decide (i < out.length) = false := by simp; omega
                  have HLB := Lib.hid (lb_of_less (o := ordP p) hi HLESS.out (fun h => absurd h hil))
                  have HIE := Lib.hid hie
                  clear hie
                  go_wp2
                  refine wp_region_free 13 [0, 1, 2, 3, 4, 5, 6, 7, 8, 9, 10, 11, 12] [] (by kernel_rfl) (by kernel_rfl) ?_
                  repeat (refine wpLoose_step rfl (fun K hK => ?_); (try simp only [Oper.quietAt, Oper.quietUpon]); go_simp; (refine hK _ ?_; clear hK K))
                  refine wpLoose_nil (wpFresh_nil (fun w4 hE4 _ => ?_))
                  have HE4 := Lib.hid (ext_trans HE3.out hE4)
                  clear hE4 d0 d1 d2 hd1 hd2 hgc
                  simp only [List.drop_succ_cons, List.drop_zero]
                  refine wpList_nil ?_
                  have HE24 := Lib.hid (ext_trans HE12.out HE4.out)
                  have hgc := cell_grown
                  have HROW4 := Lib.hid (row_ext HROW3.out HE4.out)
                  have hcap : out.length ≤ c := by
                    rcases rowL_cases HROW4.out with ⟨h, _⟩ | ⟨_, _, _, h, _, h2, _⟩
                    · cases h
                    · simp only [Value.slice.injEq] at h; rw [h.2.2]; exact h2
                  have hic : i ≤ c := by omega
                  have hic' : (i : Int) ≤ (c : Int) := by omega
                  have hil' : (i : Int) ≤ (out.length : Int) := by omega
                  go_wp2_with (at_builtin; refine wpList_copy2 rfl (.tmp 60) (.tmp 63) rfl w4.heap.size w4.heap.size rfl _ (out.drop i) rfl (srcOf_ext (ext_alloc (ext_refl _) _) (srcOf_drop i HROW4.out _ _ _ (by simp) (fun h => by first | rfl | omega))) (by simp; omega) (heap_alloc_new w4 _) (Nat.le_refl _) ?_; intro v5 w5 hE5 hR5; have HE5 := Lib.hid (ext_trans (ext_alloc (ext_refl w4) (.cells #[] 22)) hE5); have HR5 := Lib.hid hR5; clear hE5 hR5)
                  all_goals
                    have l45 := ext_size HE5.out
                    have l5 : wo.heap.size < w5.heap.size := by have := ext_lt HE4.out l2; omega
                    have lg5 : g2 < w5.heap.size := by have := rowL_block HROW4.out; omega
                    have HBK5 := Lib.hid ((ext_block (ext_trans HE4.out HE5.out) l2).trans HBK2.out)
                    have d0 : w5.cell? ⟨wo.heap.size, 0, none⟩ = some (.int .i64 k.a) := block_cell HBK5.out 0
                    have d1 : w5.cell? ⟨wo.heap.size, 1, none⟩ = some (.int .i64 k.b) := block_cell HBK5.out 1
                    have d2 : w5.cell? ⟨wo.heap.size, 2, none⟩ = some (.int .i64 k.c) := block_cell HBK5.out 2
                    have hltk : (out.take i).length = i := by rw [List.length_take]; omega
                    have HLTK := Lib.hid hltk
                    clear hltk
                    refine wp_region_gen [] [0, 1, 2, 3, 4, 7] [(5, oneF w5.heap.size k), (6, rowF w5.heap.size (out.take i ++ [k]))] [8, 9] [5, 6] rfl (by kernel_rfl) (by kernel_rfl) (fun _ _ d _ _ h => by cases d <;> exact h) ?_
                    refine wpPre_nil ?_
                    repeat (refine wpLoose_step rfl (fun K hK => ?_); (try simp only [Oper.quietAt, Oper.quietUpon]); go_simp; (refine hK _ ?_; clear hK K))
                    refine wpLoose_nil ?_
                    refine wpGen_step rfl rfl oneF_ext (fun w6 hE6 hS6 => ?_) (fun v1 => ?_)
                    · simp only [runsAt]
                      go_simp
                      exact ⟨ext_alloc (ext_refl _) _, _, rfl, ext_size hE6, heap_alloc_new w6 _⟩
                    refine wpGen_step rfl rfl rowF_ext (fun w6 hE6 hS6 => ?_) (fun v2 => ?_)
                    · exact runs_full (sv := .slice (some ⟨g2, 0, none⟩) i i) (.tmp 68) (.tmp 70) rfl rfl rfl (some ⟨g2, 0, none⟩) (by rw [HLTK.out]) (srcOf_take i (by omega) (row_ext HROW4.out (ext_trans HE5.out hE6))) (by rw [HLTK.out]; omega) (hS6 _ (List.mem_cons_self ..) (by kernel_rfl)) (ext_size hE6)
                    refine wpGen_nil (fun w6 hE6 hS6 => ?_)
                    have hr6 := hS6 _ (List.mem_cons_self ..)
                    have HR6 := Lib.hid (show rowF w5.heap.size (out.take i ++ [k]) v2 w6 from hr6)
                    have HE6 := Lib.hid hE6
                    clear hS6 hE6 hr6 d0 d1 d2
                    refine wpSeq_of_list [8, 9] [_, _] _ _ rfl ?_
                    refine wpList_onto rfl (.tmp 71) (.tmp 72) rfl w5.heap.size v2 (out.take i ++ [k]) (out.drop i) rfl HR6.out v5 rfl (srcOf_row (row_ext HR5.out.1 HE6.out)) (by rw [List.length_append, List.length_drop, HLTK.out]; simp; omega) (ext_size HE6.out) ?_
                    intro v7 w7 hR7 hgr7
                    have hins : out.take i ++ [k] ++ out.drop i = insAt out i k := by unfold insAt; simp
                    rw [hins] at hR7
                    obtain ⟨A7, c7, hv7⟩ : ∃ A7 c7, v7 = .slice A7 (insAt out i k).length c7 := by
                      rcases rowL_cases hR7.1 with ⟨h, h2⟩ | ⟨_, _, _, h, _⟩
                      · exact ⟨_, _, by rw [h2]; exact h⟩
                      · exact ⟨_, _, h⟩
                    subst hv7
                    have HR7 := Lib.hid hR7
                    have HGR7 := Lib.hid hgr7
                    clear hR7 hgr7 hins
                    have HE7 : Hid (Ext w1 w7) := Lib.hid (Below.grown (ext_trans HE24.out (ext_trans HE5.out HE6.out)) HGR7.out (ext_size (ext_trans HE24.out (ext_trans HE5.out HE6.out))) (fun g e => by have := HR6.out.2 _ e; have := ext_size HE24.out; omega))
                    go_wp2
                    go_roundw
                    case rel => exact ⟨j + 1, A7, c7, insAt out i k, by omega, by go_num, by rw [foldl_take_succ hlt, HK.out, ← HOUT.out]; unfold scanF; rw [HFF.out, HLB.out]; rfl, rfl, HR7.out.1, HE7.out⟩
                    case measure => simp [intOf]; omega
    · obtain rfl : j = L.length := by omega
      go_wp2
      go_ret
      exact ⟨_, rfl, by have := HOUT.out; rw [List.take_length] at this; unfold scanL; rw [← this]; exact HROW.out, ext_trans HE0.out HEr.out⟩
end Go.Proofs.YtfaegjlolhpofaaDoor
