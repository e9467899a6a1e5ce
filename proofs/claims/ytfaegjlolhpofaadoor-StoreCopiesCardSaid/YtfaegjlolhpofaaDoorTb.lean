/- Scanned: what is told of a pattern is the document's. -/
import Derived.Test.YtfaegjlolhpofaaDoorTa
namespace Go.Proofs.YtfaegjlolhpofaaDoor
open Go.RowKit Go.Sort
set_option maxHeartbeats 800000

theorem rowL_form {w : World} {v : Value} {L : List Key} (h : rowL w v L) : ∃ A c, v = .slice A L.length c := by
  rcases rowL_cases h with ⟨h1, h2⟩ | ⟨_, _, _, h1, _⟩
  · exact ⟨_, _, by rw [h2]; exact h1⟩
  · exact ⟨_, _, h1⟩

def ScQ (bok bi : Nat) (w2 : World) (pre : List Key) (W : World) : Prop := W.heap[bok]? = some (.cells #[.bool true] 4 (0, 0)) ∧ W.heap[bi]? = some (.cells #[.int .i64 (pre.length : Nat)] 3 (0, 0)) ∧ Upd (fun b => b = bok ∨ b = bi) w2 W
def ScJ (bok bi : Nat) (most : Int) (w2 : World) (pre : List Key) (W : World) : Prop := ScQ bok bi w2 pre W ∧ (pre.length = 0 ∨ (pre.length : Int) < most)
def ScJx (bok bi : Nat) (most : Int) (w2 : World) (pre : List Key) (W : World) : Prop := ScQ bok bi w2 pre W ∧ (pre.length : Int) = max most 1
theorem prefix_kat {pre M : List Key} {x : Key} (h : pre ++ [x] <+: M) : pre.length < M.length ∧ kat M pre.length = x := by
  obtain ⟨t, rfl⟩ := h
  refine ⟨by simp, ?_⟩
  unfold kat
  rw [List.getD_eq_getElem?_getD, List.getElem?_append_left (by simp), List.getElem?_append_right (Nat.le_refl _)]
  simp
theorem scJ_ext {bok bi : Nat} {most : Int} {w2 : World} (pre : List Key) (W1 W2 : World) (h : ScJ bok bi most w2 pre W1) (hE : Ext W1 W2) : ScJ bok bi most w2 pre W2 :=
  ⟨⟨(ext_block hE (block_lt h.1.1)).trans h.1.1, (ext_block hE (block_lt h.1.2.1)).trans h.1.2.1, upd_trans h.1.2.2 (upd_of_ext (fp := fun b => b = bok ∨ b = bi) hE) (fun _ _ h => h)⟩, h.2⟩

theorem sc_told {bok bi bw bm : Nat} {most : Int} {w2 : World} {M : List Key} {A : Option Addr} {c : Nat} (h3 : w2.heap[bw]? = some (.cells #[.slice A M.length c] 45 (0, 0))) (h4 : w2.heap[bm]? = some (.cells #[.int .i64 most] 3 (0, 0)))
    (hr : rowL w2 (.slice A M.length c) M) (hM : M.length ≤ 100000) (hbm : bm ≠ bi) (h1 : ∃ b, w2.heap[bok]? = some (.cells #[.bool b] 4 (0, 0))) (h2 : ∃ z, w2.heap[bi]? = some (.cells #[.int .i64 z] 3 (0, 0))) (pre : List Key) (x : Key) (W1 : World) (hJ : ScJ bok bi most w2 pre W1) (hp : pre ++ [x] <+: M) :
    Told (.func (.func 34) #[] #[.pointer (some ⟨bok, 0, none⟩), .pointer (some ⟨bi, 0, none⟩), .pointer (some ⟨bw, 0, none⟩), .pointer (some ⟨bm, 0, none⟩)]) x W1
      (ToldPost (fun b => b = bok ∨ b = bi) (ScJ bok bi most w2) (ScJx bok bi most w2) pre x W1) := by
  obtain ⟨bz, h1⟩ := h1
  obtain ⟨z, h2⟩ := h2
  refine ⟨fun f lb e => ?_, fun l e => by cases e⟩
  cases e
  obtain ⟨hlt, hx⟩ := prefix_kat hp
  obtain ⟨⟨j1, j2, ju⟩, j3⟩ := hJ
  have hwi : bw ≠ bi := fun e => by subst e; rw [h3] at h2; simp at h2
  have hwo : bw ≠ bok := fun e => by subst e; rw [h3] at h1; simp at h1
  have hmo : bm ≠ bok := fun e => by subst e; rw [h4] at h1; simp at h1
  have b3 := (ju.block bw (block_lt h3) (fun h => h.elim hwo hwi)).trans h3
  have b4 := (ju.block bm (block_lt h4) (fun h => h.elim hmo hbm)).trans h4
  rcases rowL_cases hr with ⟨_, h⟩ | ⟨g, cap, cur, h, hg, _⟩
  · rw [h] at hlt; simp at hlt
  · simp only [Value.slice.injEq] at h
    obtain ⟨rfl, -, rfl⟩ := h
    have hrow : rowL W1 (.slice (some ⟨g, 0, none⟩) M.length c) M := row_upd hr ju (fun b hb h => by
      cases hb
      rcases h with rfl | rfl
      · rw [hg] at h1; simp at h1
      · rw [hg] at h2; simp at h2)
    refine (cb34 x bok bi bw bm pre.length most g c M W1 j1 j2 b3 b4 hrow hM hlt hx hbm).mono ?_
    rintro e W' ⟨rfl, p1, p2, pu⟩
    have hQ : ScQ bok bi w2 (pre ++ [x]) W' := ⟨p1, by rw [p2]; simp, upd_trans ju pu (fun _ _ h => h)⟩
    by_cases hm : ((pre.length : Nat) : Int) + 1 < most
    · refine .inl ⟨by rw [decide_eq_true hm], ⟨hQ, .inr (by simp; omega)⟩, pu⟩
    · refine .inr ⟨by rw [decide_eq_false hm], hQ, ?_⟩
      rw [List.length_append, List.length_singleton]
      rcases j3 with h | h <;> omega

theorem scanned_any {F : Nat → Prop} {s : Nat} {L : List Key} {room : Int} (lv : Value) (p : Key) (most : Int) (w : World) (hL : Laid w) (h : St w F s L room) (hr : rowL w lv L) (hm : L.length ≤ 1000) :
    Calls Tryd.prog 25 #[.pointer (some ⟨s, 0, none⟩), RS room lv, K3 p.a p.b p.c, .int .i64 most] w fun e w' => e = .returned (.bool true) ∧ Ext w w' := by
  have HL := Lib.hid hL
  have HS := Lib.hid h
  have HR := Lib.hid hr
  clear hL h hr
  obtain ⟨A, n, c, rfl⟩ : ∃ A n c, lv = .slice A n c := by
    rcases rowL_cases HR.out with ⟨h, _⟩ | ⟨_, _, _, h, _⟩ <;> exact ⟨_, _, _, h⟩
  go_enter Tryd.func25, Tryd.ntmps25
  go_wp2_with (first
    | (go_at_call 22; refine (refscan_any room _ L p _ (row_ext HR.out ?_) (by omega)).mono ?_; (exact ext_alloc (ext_alloc (ext_alloc (ext_refl _) _) _) _); rintro e w1 ⟨wv, rfl, hr1, hE1⟩; obtain ⟨A1, c1, rfl⟩ := rowL_form hr1; have HR1 := Lib.hid hr1; have HE1 := Lib.hid hE1; clear hr1 hE1; obtain ⟨g0, g1, g2⟩ := heap_three w (.cells #[.int .i64 room, .slice A n c] 47) (.cells #[.int .i64 p.a, .int .i64 p.b, .int .i64 p.c] 22) (.cells #[.int .i64 most] 3); have G1 := Lib.hid ((ext_block HE1.out (block_lt g1)).trans g1); have G2 := Lib.hid ((ext_block HE1.out (block_lt g2)).trans g2); clear g0 g1 g2; have k0 : w1.cell? ⟨w.heap.size + 1, 0, none⟩ = some (.int .i64 p.a) := block_cell G1.out 0; have k1 : w1.cell? ⟨w.heap.size + 1, 1, none⟩ = some (.int .i64 p.b) := block_cell G1.out 1; have k2 : w1.cell? ⟨w.heap.size + 1, 2, none⟩ = some (.int .i64 p.c) := block_cell G1.out 2; have m1 := block_lt G1.out; have m1a := Nat.lt_of_succ_lt m1; have m1b := Nat.lt_succ_of_lt m1a)
    | (go_at_call 17; refine (scan_any s p _ ?_).mono ?_; (exact laid_ext HL.out (ext_trans (ext_alloc (ext_alloc (ext_alloc (ext_refl _) _) _) _) (ext_trans HE1.out (ext_alloc (ext_alloc (ext_alloc (ext_refl _) _) _) _)))); rintro e w2 ⟨b1, b2, b3, b4, rfl, hA, hb, hE2⟩; have HA := Lib.hid hA; have HB := Lib.hid hb; have HE2 := Lib.hid hE2; clear hA hb hE2 k0 k1 k2 m1a m1b)
    | (go_at_call 32; refine halt_here ?_))
  have hE02 : Ext w w2 := ext_trans (ext_alloc (ext_alloc (ext_alloc (ext_refl _) _) _) _) (ext_trans HE1.out (ext_trans (ext_alloc (ext_alloc (ext_alloc (ext_refl _) _) _) _) HE2.out))
  obtain ⟨g3, g4, g5⟩ := heap_three w1 (.cells #[.slice A1 (scanL p L).length c1] 45) (.cells #[.int .i64 0] 3) (.cells #[.bool true] 4)
  have G3 := Lib.hid ((ext_block HE2.out (block_lt g3)).trans g3)
  have G4 := Lib.hid ((ext_block HE2.out (block_lt g4)).trans g4)
  have G5 := Lib.hid ((ext_block HE2.out (block_lt g5)).trans g5)
  have hE12 : Ext w1 w2 := ext_trans (ext_alloc (ext_alloc (ext_alloc (ext_refl _) _) _) _) HE2.out
  have HE12 := Lib.hid hE12
  have HE02 := Lib.hid hE02
  have G12 := Lib.hid ((ext_block hE12 m1).trans G1.out)
  have G22 := Lib.hid ((ext_block hE12 (block_lt G2.out)).trans G2.out)
  have HR2 := Lib.hid (row_ext HR1.out hE12)
  have HS2 := Lib.hid (st_ext HS.out hE02)
  have HL2 := Lib.hid (laid_ext HL.out hE02)
  clear g3 g4 g5 hE02 hE12
  have m2 := block_lt G2.out
  have hlenM : (scanL p L).length ≤ 1000 := by
    have := scan_length (ordP p) p L []
    simp at this
    unfold scanL; omega
  have HLM := Lib.hid hlenM
  clear hlenM
  refine go_on ?_
  have hsw := ext_size HE12.out
  have hs12 := ext_size HE1.out
  rw [World.size_alloc, World.size_alloc, World.size_alloc] at hs12
  refine (sto_scan1 (L := L) (.func (.func 34) #[] #[.pointer (some ⟨w1.heap.size + 2, 0, none⟩), .pointer (some ⟨w1.heap.size + 1, 0, none⟩), .pointer (some ⟨w1.heap.size, 0, none⟩), .pointer (some ⟨w.heap.size + 2, 0, none⟩)]) (.inl ⟨34, _, rfl, enters_of Tryd.func34 (by kernel_rfl) rfl⟩)
    (fun b => b = w1.heap.size + 2 ∨ b = w1.heap.size + 1) (ScJ (w1.heap.size + 2) (w1.heap.size + 1) most w2) (ScJx (w1.heap.size + 2) (w1.heap.size + 1) most w2) p b1 b2 b3 b4 HL2.out HS2.out (by omega) HA.out
    (fun b hb h => ?_) (fun b hb h => ?_) (by omega) (by omega) scJ_ext (fun pre x W1 hJ hp => sc_told G3.out G22.out HR2.out (by have := HLM.out; omega) (by omega) ⟨_, G5.out⟩ ⟨_, G4.out⟩ pre x W1 hJ hp) ⟨⟨G5.out, G4.out, upd_refl⟩, .inl rfl⟩).mono ?_
  · rcases h with rfl | rfl
    · exact st_off HS2.out G5.out (by decide) (by decide) hb
    · exact st_off HS2.out G4.out (by decide) (by decide) hb
  · have := HB.out b hb
    rw [World.size_alloc, World.size_alloc, World.size_alloc] at this
    omega
  rintro e W3 ⟨⟨v3, rfl⟩, hend⟩
  have hfin : ∃ n : Nat, W3.heap[w1.heap.size + 2]? = some (.cells #[.bool true] 4 (0, 0)) ∧ W3.heap[w1.heap.size + 1]? = some (.cells #[.int .i64 n] 3 (0, 0)) ∧ Upd (fun b => b = w1.heap.size + 2 ∨ b = w1.heap.size + 1) w2 W3 ∧ (n : Int) = min ((scanL p L).length : Int) (max most 1) := by
    rcases hend with ⟨⟨j1, j2, ju⟩, j3⟩ | ⟨pre, hpre, ⟨j1, j2, ju⟩, j3⟩
    · exact ⟨_, j1, j2, ju, by rcases j3 with h | h <;> omega⟩
    · have := hpre.length_le
      exact ⟨_, j1, j2, ju, by omega⟩
  clear hend
  obtain ⟨n3, q1, q2, qu, qn⟩ := hfin
  have Q1 := Lib.hid q1
  have Q2 := Lib.hid q2
  have QU := Lib.hid qu
  have QN := Lib.hid qn
  clear q1 q2 qu qn
  go_wp2
  have HS3 := Lib.hid (st_upd HS2.out QU.out (fun b hb h => by
    rcases h with rfl | rfl
    · exact st_off HS2.out G5.out (by decide) (by decide) hb
    · exact st_off HS2.out G4.out (by decide) (by decide) hb))
  have HL3 := Lib.hid (laid_upd HL2.out QU.out (by omega) (by omega))
  have B3 := Lib.hid ((QU.out.block _ (block_lt G3.out) (by omega)).trans G3.out)
  have B12 := Lib.hid ((QU.out.block _ (block_lt G12.out) (by omega)).trans G12.out)
  have B22 := Lib.hid ((QU.out.block _ (block_lt G22.out) (by omega)).trans G22.out)
  have c5 : W3.cell? ⟨w1.heap.size + 2, 0, none⟩ = some (.bool true) := block_cell Q1.out 0
  have c4 : W3.cell? ⟨w1.heap.size + 1, 0, none⟩ = some (.int .i64 n3) := block_cell Q2.out 0
  have c3 : W3.cell? ⟨w1.heap.size, 0, none⟩ = some (.slice A1 (scanL p L).length c1) := block_cell B3.out 0
  have k0 : W3.cell? ⟨w.heap.size + 1, 0, none⟩ = some (.int .i64 p.a) := block_cell B12.out 0
  have k1 : W3.cell? ⟨w.heap.size + 1, 1, none⟩ = some (.int .i64 p.b) := block_cell B12.out 1
  have k2 : W3.cell? ⟨w.heap.size + 1, 2, none⟩ = some (.int .i64 p.c) := block_cell B12.out 2
  have k3 : W3.cell? ⟨w.heap.size + 2, 0, none⟩ = some (.int .i64 most) := block_cell B22.out 0
  have l5 := block_lt Q1.out
  have l4 := block_lt Q2.out
  have l3 := block_lt B3.out
  have l12 := block_lt B12.out
  have l22 := block_lt B22.out
  clear m1 m2 hsw hs12
  have hgc := cell_grown
  refine wp_region_free 19 [0, 1, 2, 3, 4, 5, 6, 7, 8, 9, 10, 11, 12, 13, 14, 15, 16, 17, 18] [] (by kernel_rfl) (by kernel_rfl) ?_
  iterate 6 (refine wpLoose_step rfl (fun K hK => ?_); (try simp only [Oper.quietAt, Oper.quietUpon]); go_simp; (refine hK _ ?_; clear hK K))
  iterate 1 (refine wpLoose_step rfl (fun K hK => ?_); (try simp only [Oper.quietAt, Oper.quietUpon]); go_simp; (refine hK _ ?_; clear hK K))
  obtain ⟨mx, hmx⟩ : ∃ mx, (if most < 1 then 1 else most) = mx := ⟨_, rfl⟩
  rw [hmx]
  have HMX := Lib.hid (show mx = max most 1 by rw [← hmx]; split <;> omega)
  clear hmx
  iterate 1 (refine wpLoose_step rfl (fun K hK => ?_); (try simp only [Oper.quietAt, Oper.quietUpon]); go_simp; (refine hK _ ?_; clear hK K))
  have hmn : (if mx < ((scanL p L).length : Int) then mx else ((scanL p L).length : Int)) = (n3 : Int) := by
    have := QN.out
    have := HMX.out
    split <;> omega
  rw [hmn]
  clear hmn
  repeat (refine wpLoose_step rfl (fun K hK => ?_); (try simp only [Oper.quietAt, Oper.quietUpon]); go_simp; first | (refine hK _ ?_; clear hK K) | (apply Exists.intro; refine ⟨fun pp => ?_, hK _ ?_⟩; (go_at_call 21; refine (sto_count p (laid_ext HL3.out (ext_grow (ext_refl _) _ _)) (st_ext HS3.out (ext_grow (ext_refl _) _ _)) (by omega))); clear hK K))
  refine wpLoose_nil (wpFresh_nil (fun w5 hE5 _ => ?_))
  have HE5 := Lib.hid hE5
  clear hE5 hgc c3 c4 c5 k0 k1 k2 k3 l3 l4 l5 l12 l22
  simp only [List.drop_succ_cons, List.drop_zero]
  refine wpList_nil ?_
  go_wp2
  go_ret
  refine ⟨rfl, ext_trans ?_ HE5.out⟩
  have h1 := ext_size HE1.out
  rw [World.size_alloc, World.size_alloc, World.size_alloc] at h1
  exact ext_of_upd (upd_trans (upd_of_ext HE02.out) QU.out (fun i hi h => by rcases h with rfl | rfl <;> omega))
end Go.Proofs.YtfaegjlolhpofaaDoor
