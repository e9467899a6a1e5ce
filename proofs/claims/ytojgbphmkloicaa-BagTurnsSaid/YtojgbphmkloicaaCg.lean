/- BagParts. -/
import Derived.Test.YtojgbphmkloicaaBq
import Derived.Test.YtojgbphmkloicaaCf
import Derived.Test.YtojgbphmkloicaaCh
namespace Go.Proofs.Ytojgbphmkloicaa
open Go Go.RowKit Go.Sort
set_option maxHeartbeats 4000000

structure AC where
  kind : Int
  time : Int
  n : Int
  key : Key
def RdA (w : World) (v : Value) (L : List AC) : Prop := ∃ A c, v = .slice A L.length c ∧ (∀ x ∈ L, okI x.time ∧ okI x.n ∧ ok3 x.key) ∧ (L ≠ [] → ∃ b off, A = some ⟨b, off, none⟩ ∧ b < w.heap.size ∧ ∀ (i : Nat) (x : AC), L[i]? = some x →
  w.cell? ⟨b, off + i * 6, none⟩ = some (.int .u8 x.kind) ∧ w.cell? ⟨b, off + i * 6 + 1, none⟩ = some (.int .i64 x.time) ∧ w.cell? ⟨b, off + i * 6 + 2, none⟩ = some (.int .i64 x.n) ∧ w.cell? ⟨b, off + i * 6 + 3, none⟩ = some (.int .i64 x.key.a) ∧ w.cell? ⟨b, off + i * 6 + 4, none⟩ = some (.int .i64 x.key.b) ∧ w.cell? ⟨b, off + i * 6 + 5, none⟩ = some (.int .i64 x.key.c))
theorem rdA_ext {w w' : World} {v : Value} {L : List AC} (h : RdA w v L) (hE : Ext w w') : RdA w' v L := by
  obtain ⟨A, c, h1, h2, h3⟩ := h
  refine ⟨A, c, h1, h2, fun hne => ?_⟩
  obtain ⟨b, off, h4, h5, h6⟩ := h3 hne
  refine ⟨b, off, h4, ext_lt hE h5, fun i x hx => ?_⟩
  obtain ⟨c0, c1, c2, c3, c4, c5⟩ := h6 i x hx
  exact ⟨(ext_cell hE _ _ h5).trans c0, (ext_cell hE _ _ h5).trans c1, (ext_cell hE _ _ h5).trans c2, (ext_cell hE _ _ h5).trans c3, (ext_cell hE _ _ h5).trans c4, (ext_cell hE _ _ h5).trans c5⟩
def evs (L : List AC) : List Ev := L.map fun x => (x.time, x.key)

def evL (L : List AC) (j : Nat) : List Ev := ((evs L).take j).filter okE
theorem evL_len (L : List AC) (j : Nat) : (evL L j).length ≤ j := by
  unfold evL
  exact Nat.le_trans (List.length_filter_le ..) (by rw [List.length_take]; omega)
theorem evL_succ {L : List AC} {j : Nat} {x : AC} (h : L[j]? = some x) : addE (evL L j) (x.time, x.key) = evL L (j + 1) := take_ok (by unfold evs; rw [List.getElem?_map, h]; rfl)
theorem sumN_take {L : List (Key × Nat)} {i : Nat} {p : Key × Nat} (h : L[i]? = some p) : sumN (L.take (i + 1)) = sumN (L.take i) + p.2 := by
  rw [List.take_add_one, h, Option.toList_some, sumN_append, sumN_cons, sumN_nil]
  omega
theorem sumN_le (L : List (Key × Nat)) (i : Nat) : sumN (L.take i) ≤ sumN L := by
  conv => rhs; rw [← List.take_append_drop i L, sumN_append]
  omega
def sumW (L : List (Key × Nat)) (k : Key) : Nat := sumN (L.filter fun p => decide (p.1 = k))
theorem sumW_take {L : List (Key × Nat)} {i : Nat} {p : Key × Nat} (h : L[i]? = some p) (k : Key) : sumW (L.take (i + 1)) k = sumW (L.take i) k + if p.1 = k then p.2 else 0 := by
  unfold sumW
  rw [List.take_add_one, h, Option.toList_some, List.filter_append, sumN_append]
  by_cases e : p.1 = k
  · rw [if_pos e, List.filter_cons_of_pos (by simpa using e)]
    rfl
  · rw [if_neg e, List.filter_cons_of_neg (by simpa using e)]
    rfl
theorem sumW_le (k : Key) : ∀ L : List (Key × Nat), sumW L k ≤ sumN L
  | [] => Nat.le_refl _
  | p :: L => by
    have h := sumW_le k L
    unfold sumW at *
    rw [sumN_cons]
    by_cases e : p.1 = k
    · rw [List.filter_cons_of_pos (by simpa using e), sumN_cons]; omega
    · rw [List.filter_cons_of_neg (by simpa using e)]; omega
theorem many_le (E : List Ev) (o c : Int) : many E o c ≤ E.length := List.countP_le_length
theorem len_le_sum : ∀ {L : List (Key × Nat)}, (∀ p ∈ L, 0 < p.2) → L.length ≤ sumN L
  | [], _ => Nat.zero_le _
  | p :: L, h => by
    have h1 := len_le_sum (L := L) (fun x hx => h x (List.mem_cons_of_mem _ hx))
    have h2 := h p (List.mem_cons_self ..)
    rw [sumN_cons, List.length_cons]
    omega
theorem cont_len {E : List Ev} {o c : Int} {L : List (Key × Nat)} (h : Cont E o c L) : L.length ≤ E.length := by
  have h1 := len_le_sum (L := L) (fun p hp => ((h.mem p.1 p.2).1 hp).2)
  rw [cont_total h] at h1
  exact Nat.le_trans h1 (many_le E o c)
theorem parts_each {E : List Ev} {a b c : Int} {M0 M1 M2 : List (Key × Nat)} (h0 : Cont E a c M0) (h1 : Cont E a b M1) (h2 : Cont E b c M2) (hab : a ≤ b) (hbc : b ≤ c) {p : Key × Nat} (hp : p ∈ M0) : sumW (M1 ++ M2) p.1 = p.2 := by
  have h3 := ((h0.mem p.1 p.2).1 hp).1
  rw [h3, cnt_split hab hbc]
  unfold sumW
  rw [List.filter_append, sumN_append, sum_where h1, sum_where h2]
theorem parts_sum {E : List Ev} {a b c : Int} {M0 M1 M2 : List (Key × Nat)} (h0 : Cont E a c M0) (h1 : Cont E a b M1) (h2 : Cont E b c M2) (hab : a ≤ b) (hbc : b ≤ c) : sumN (M1 ++ M2) = sumN M0 := by
  rw [sumN_append, cont_total h0, cont_total h1, cont_total h2, many_split hab hbc]
set_option maxRecDepth 100000 in
theorem parts_law (v : Value) (L : List AC) (k : Key) (w : World) (h : RdA w v L) (hk : ok3 k) :
    Calls Try.prog 3 #[v, k3 k] w fun e w' => e = .returned (.bool true) ∧ Ext w w' := by
  obtain ⟨A, cp, rfl, hok, hrd⟩ := h
  obtain ⟨n, hn⟩ : ∃ n, n = L.length := ⟨_, rfl⟩
  rw [← hn]
  obtain ⟨W, hW⟩ : ∃ W, W = w.alloc (.cells #[.int .i64 k.a, .int .i64 k.b, .int .i64 k.c] 23) := ⟨_, rfl⟩
  have HE0 := Lib.hid (show Ext w W by rw [hW]; exact ext_alloc (ext_refl _) _)
  have HB0 := Lib.hid (show W.heap[w.heap.size]? = some (.cells #[.int .i64 k.a, .int .i64 k.b, .int .i64 k.c] 23 (0, 0)) by rw [hW]; exact heap_alloc_new _ _)
  have HRD := Lib.hid (show RdA w (.slice A n cp) L by rw [hn]; exact ⟨A, cp, rfl, hok, hrd⟩)
  have HOK := Lib.hid hok
  have HN := Lib.hid hn
  have HK := Lib.hid hk
  obtain ⟨ka, kb, kc⟩ := k
  unfold k3
  simp only at HB0 hW ⊢
  clear hok hrd hn hk
  go_enter Try.func3, Try.ntmps3
  go_wp2_with fail
  rw [← hW]
  clear hW
  refine (awake_any W).mono ?_
  rintro e w1 ⟨rfl, hE1⟩
  have HE1 := Lib.hid (ext_trans HE0.out hE1)
  have HB1 := Lib.hid ((ext_block hE1 (block_lt HB0.out)).trans HB0.out)
  clear hE1
  by_cases hbig : (40 : Int) < (n : Int)
  · go_wp2_with fail
    refine (awake_any w1).mono ?_
    rintro e w2 ⟨rfl, hE2⟩
    have HE2 := Lib.hid (ext_trans HE1.out hE2)
    clear hE2
    go_wp2
    refine bodyPost_ret (results_tmp rfl _ _ _) rfl ?_
    exact ⟨rfl, HE2.out⟩
  have x0 := block_cell HB1.out 0
  have x1 := block_cell HB1.out 1
  have x2 := block_cell HB1.out 2
  have lx := block_lt HB1.out
  have hgc := cell_grown
  go_wp2_with fail
  refine wp_region_free 9 [0, 1, 2, 3, 4, 5, 6, 7, 8] [] (by kernel_rfl) (by kernel_rfl) ?_
  repeat (refine wpLoose_step rfl (fun K hK => ?_); (try simp only [Oper.quietAt, Oper.quietUpon]); go_simp; (refine hK _ ?_; clear hK K))
  refine wpLoose_nil (wpFresh_nil (fun w2 hE2 _ => ?_))
  simp only [List.drop_succ_cons, List.drop_zero]
  have HE2 := Lib.hid (ext_trans HE1.out hE2)
  clear hE2 x0 x1 x2 lx hgc HB1 HB0
  by_cases hab : kb < ka
  · go_wp2
    refine bodyPost_ret (results_tmp rfl _ _ _) rfl ?_
    exact ⟨rfl, HE2.out⟩
  by_cases hbc : kc < kb
  · go_wp2
    refine bodyPost_ret (results_tmp rfl _ _ _) rfl ?_
    exact ⟨rfl, HE2.out⟩
  go_wp2_with fail
  refine (new_any 100 (by omega) (by omega) w2).mono ?_
  rintro e w3 ⟨pb, rfl, hpb, hB3, hE3, hs3⟩
  have HB3 := Lib.hid (bagM_own (F' := fun b => w2.heap.size ≤ b) hB3 (fun b _ e => by rw [e, hpb]; exact Nat.le_refl _))
  have HE3 := Lib.hid hE3
  clear hB3 hE3 hs3 hpb
  have hn40 : n ≤ 40 := by omega
  have HKO := Lib.hid (show ka ≤ kb ∧ kb ≤ kc by omega)
  clear hbig hab hbc
  go_wp2
  go_loopw [50] (fun x wr => ∃ j : Nat, j ≤ n ∧ x = .int .i64 (j : Int) ∧ BagM wr pb 100 (evL L j) (fun b => w2.heap.size ≤ b) ∧ Ext w2 wr) (fun x _ => n - (intOf x).toNat)
  case atStart => exact ⟨0, by omega, rfl, HB3.out, HE3.out⟩
  case round =>
    rename World => wi
    obtain ⟨j, hj, rfl, hB, hE⟩ := hrel
    have HB := Lib.hid hB
    have HE := Lib.hid hE
    clear hB hE
    by_cases hlt : j < n
    · have hji : (j : Int) < (n : Int) := by omega
      have hj0 : (0 : Int) ≤ (j : Int) := by omega
      obtain ⟨x, hx⟩ : ∃ x, L[j]? = some x := ⟨_, List.getElem?_eq_getElem (by rw [← HN.out]; exact hlt)⟩
      obtain ⟨A', c', hv', _, hrd⟩ := rdA_ext HRD.out (ext_trans HE2.out HE.out)
      simp only [Value.slice.injEq] at hv'
      obtain ⟨rfl, -, rfl⟩ := hv'
      obtain ⟨g, off, rfl, lg, hc⟩ := hrd (fun e => by rw [e] at hx; simp at hx)
      obtain ⟨c0, c1, c2, c3, c4, c5⟩ := hc j x hx
      have HX := Lib.hid hx
      have hox := HOK.out x (List.mem_of_getElem? hx)
      have HOX := Lib.hid hox
      obtain ⟨W4, hW4⟩ : ∃ W4, W4 = wi.alloc (.cells #[.int .u8 x.kind, .int .i64 x.time, .int .i64 x.n, .int .i64 x.key.a, .int .i64 x.key.b, .int .i64 x.key.c] 30) := ⟨_, rfl⟩
      have hEW : Ext wi W4 := by rw [hW4]; exact ext_alloc (ext_refl _) _
      have HEW := Lib.hid hEW
      clear hc hrd hx hox hEW
      have hlen := evL_len L j
      go_wp2_with fail
      rw [← hW4]
      clear hW4 c0 c1 c2 c3 c4 c5 lg
      refine (add_any pb 100 (evL L j) _ x.time x.key W4 (bagM_ext HB.out HEW.out) (by omega) (by omega) HOX.out.2.2 HOX.out.1).mono ?_
      rintro e w5 ⟨cc, rfl, hB5, hU5⟩
      have HB5 := Lib.hid hB5
      have HU5 := Lib.hid hU5
      clear hB5 hU5
      go_wp2
      go_roundw
      case rel => exact ⟨j + 1, by omega, by go_num, (by
        rw [← evL_succ HX.out]
        exact bagM_own HB5.out (fun b hb e => by
          rcases e with h | h
          · exact h
          · exact Nat.le_trans (ext_size (ext_trans HE.out HEW.out)) h)), ext_of_upd (upd_trans (upd_of_ext (ext_trans HE.out HEW.out)) HU5.out (fun i hi e => absurd hi (by have h : w2.heap.size ≤ i := e; omega)))⟩
      case measure => simp [intOf]; omega
    · have hjn : j = n := by omega
      subst hjn
      obtain ⟨EV, hEV⟩ : ∃ EV, EV = evL L j := ⟨_, rfl⟩
      have hel : EV.length ≤ 40 := by rw [hEV]; exact Nat.le_trans (evL_len L j) hn40
      rw [← hEV] at HB
      clear hEV HN HRD HOK HB3 HE3
      go_wp2_with fail
      refine (content_any pb 100 EV _ ka kc wi HB.out (by omega)).mono ?_
      rintro e w5 ⟨v5, M0, rfl, hC0, hr0, hE5⟩
      have HC0 := Lib.hid hC0
      have HR0 := Lib.hid hr0
      have HE5 := Lib.hid hE5
      have HB5 := Lib.hid (bagM_ext HB.out hE5)
      clear hC0 hr0 hE5
      go_wp2_with fail
      refine (content_any pb 100 EV _ ka kb w5 HB5.out (by omega)).mono ?_
      rintro e w6 ⟨v6, M1, rfl, hC1, hr1, hE6⟩
      have HC1 := Lib.hid hC1
      have HR1 := Lib.hid hr1
      have HE6 := Lib.hid hE6
      have HB6 := Lib.hid (bagM_ext HB5.out hE6)
      clear hC1 hr1 hE6
      go_wp2_with fail
      refine (content_any pb 100 EV _ kb kc w6 HB6.out (by omega)).mono ?_
      rintro e w7 ⟨v7, M2, rfl, hC2, hr2, hE7⟩
      have HC2 := Lib.hid hC2
      have HR2 := Lib.hid hr2
      have HE7 := Lib.hid hE7
      clear hC2 hr2 hE7
      go_wp2_with (at_builtin; refine halt_here ?_)
      refine go_on ?_
      have hl1 := cont_len HC1.out
      have hl2 := cont_len HC2.out
      refine wpList_append rfl (.tmp 70) (.tmp 75) rfl v6 v7 rfl rfl (fun v' w' => rowF elN w5.heap.size (M1 ++ M2) v' w' ∧ w7.grownBy w' v6.ownBlock) (append_onto tpN _ w5.heap.size v6 v7 M1 M2 w7 (rowF_ext _ _ _ HE7.out HR1.out) (srcOf_row HR2.out.1) (by omega) (ext_size (ext_trans HE6.out HE7.out))) ?_
      rintro v8 w8 ⟨hR8, hg8⟩
      have hE58 : Ext w5 w8 := ext_of_upd (upd_trans (upd_of_ext (ext_trans HE6.out HE7.out)) (upd_grown hg8) (fun i hi e => absurd (HR1.out.2 i e) (by omega)))
      have hEw8 : Ext w w8 := ext_trans HE2.out (ext_trans HE.out (ext_trans HE5.out hE58))
      have HEW8 := Lib.hid hEw8
      have HR8 := Lib.hid hR8.1
      have HR0' := Lib.hid (rowE_ext HR0.out.1 hE58)
      have hm0 : sumN M0 ≤ 40 := by rw [cont_total HC0.out]; exact Nat.le_trans (many_le ..) hel
      have HSE := Lib.hid (fun p (hp : p ∈ M0) => parts_each HC0.out HC1.out HC2.out HKO.out.1 HKO.out.2 hp)
      have hms : sumN (M1 ++ M2) = sumN M0 := parts_sum HC0.out HC1.out HC2.out HKO.out.1 HKO.out.2
      obtain ⟨P, hP⟩ : ∃ P, P = M1 ++ M2 := ⟨_, rfl⟩
      rw [← hP] at HR8 HSE hms
      obtain ⟨A0, c0, hv0⟩ := rowE_form HR0'.out
      obtain ⟨A8, c8, hv8⟩ := rowE_form HR8.out
      obtain ⟨q0, hq0⟩ : ∃ q, q = M0.length := ⟨_, rfl⟩
      obtain ⟨q8, hq8⟩ : ∃ q, q = P.length := ⟨_, rfl⟩
      rw [← hq0] at hv0
      rw [← hq8] at hv8
      subst hv0
      subst hv8
      have hq0b : q0 ≤ 40 := by rw [hq0]; exact Nat.le_trans (cont_len HC0.out) hel
      have hq8b : q8 ≤ 80 := by rw [hq8, hP, List.length_append]; omega
      have HQ0 := Lib.hid hq0
      have HQ8 := Lib.hid hq8
      have HMS := Lib.hid hms
      have HM0 := Lib.hid hm0
      clear hR8 hg8 hE58 hEw8 hm0 hms hP hq0 hq8 hl1 hl2 HR0 HR1 HR2 HC0 HC1 HC2 HB HB5 HB6 HE5 HE6 HE7
      go_wp2
      go_loopw [14, 79] (fun x y wr => ∃ i : Nat, i ≤ q0 ∧ y = .int .i64 (i : Int) ∧ x = .int .i64 (sumN (M0.take i) : Int) ∧ Ext w8 wr) (fun _ y _ => q0 - (intOf y).toNat)
      case atStart => exact ⟨0, by omega, rfl, rfl, ext_refl _⟩
      case round =>
        rename World => wo
        obtain ⟨i, hi, rfl, rfl, hEo⟩ := hrel
        have HEO := Lib.hid hEo
        clear hEo
        by_cases hlt : i < q0
        · have hji : (i : Int) < (q0 : Int) := by omega
          have hj0 : (0 : Int) ≤ (i : Int) := by omega
          obtain ⟨p, hp⟩ : ∃ p, M0[i]? = some p := ⟨_, List.getElem?_eq_getElem (by rw [← HQ0.out]; exact hlt)⟩
          have hrw := rowE_ext HR0'.out HEO.out
          obtain ⟨g, rfl⟩ : ∃ g, A0 = some ⟨g, 0, none⟩ := by
            rcases rowE_cases hrw with ⟨_, h0⟩ | ⟨g, cap, cur, h1, _⟩
            · rw [h0] at hp; simp at hp
            · simp only [Value.slice.injEq] at h1
              exact ⟨g, h1.1⟩
          have k0 : wo.cell? ⟨g, i * 4, none⟩ = some (.int .i64 p.1.a) := rowE_cell hrw hp (j := 0) (u := .int .i64 p.1.a) rfl
          have k1 : wo.cell? ⟨g, i * 4 + 1, none⟩ = some (.int .i64 p.1.b) := rowE_cell hrw hp (j := 1) (u := .int .i64 p.1.b) rfl
          have k2 : wo.cell? ⟨g, i * 4 + 2, none⟩ = some (.int .i64 p.1.c) := rowE_cell hrw hp (j := 2) (u := .int .i64 p.1.c) rfl
          have k3' : wo.cell? ⟨g, i * 4 + 3, none⟩ = some (.int .i64 (p.2 : Int)) := rowE_cell hrw hp (j := 3) (u := .int .i64 (p.2 : Int)) rfl
          have lg := (rowE_block hrw (g := g) rfl).1
          have HPI := Lib.hid hp
          have HSP := Lib.hid (HSE.out p (List.mem_of_getElem? hp))
          clear hp hrw
          go_wp2
          obtain ⟨W9, hW9⟩ : ∃ W, W = wo.alloc (.cells #[.int .i64 p.1.a, .int .i64 p.1.b, .int .i64 p.1.c, .int .i64 (p.2 : Int)] 38) := ⟨_, rfl⟩
          rw [← hW9]
          have HE9 := Lib.hid (show Ext wo W9 by rw [hW9]; exact ext_alloc (ext_refl _) _)
          have HX9 := Lib.hid (show W9.heap[wo.heap.size]? = some (.cells #[.int .i64 p.1.a, .int .i64 p.1.b, .int .i64 p.1.c, .int .i64 (p.2 : Int)] 38 (0, 0)) by rw [hW9]; exact heap_alloc_new _ _)
          clear hW9 k0 k1 k2 k3' lg
          obtain ⟨bx, hbx⟩ : ∃ b, b = wo.heap.size := ⟨_, rfl⟩
          rw [← hbx] at HX9 ⊢
          clear hbx
          have hwb : ∀ i2, sumW (P.take i2) p.1 ≤ 40 := fun i2 => Nat.le_trans (sumW_le _ _) (Nat.le_trans (sumN_le _ _) (by rw [HMS.out]; exact HM0.out))
          have HWB := Lib.hid hwb
          clear hwb
          go_loopw [17, 85] (fun x y wr => ∃ i2 : Nat, i2 ≤ q8 ∧ y = .int .i64 (i2 : Int) ∧ x = .int .i64 (sumW (P.take i2) p.1 : Int) ∧ Ext W9 wr) (fun _ y _ => q8 - (intOf y).toNat)
          case atStart => exact ⟨0, by omega, rfl, rfl, ext_refl _⟩
          case round =>
            rename World => wn
            obtain ⟨i2, hi2, rfl, rfl, hEn⟩ := hrel
            have HEN := Lib.hid hEn
            have hbxn := (ext_block hEn (block_lt HX9.out)).trans HX9.out
            have b0 : wn.cell? ⟨bx, 0, none⟩ = some (.int .i64 p.1.a) := block_cell hbxn 0
            have b1 : wn.cell? ⟨bx, 1, none⟩ = some (.int .i64 p.1.b) := block_cell hbxn 1
            have b2 : wn.cell? ⟨bx, 2, none⟩ = some (.int .i64 p.1.c) := block_cell hbxn 2
            have b3 : wn.cell? ⟨bx, 3, none⟩ = some (.int .i64 (p.2 : Int)) := block_cell hbxn 3
            have lb := block_lt hbxn
            clear hEn hbxn
            by_cases hlt2 : i2 < q8
            · have hji2 : (i2 : Int) < (q8 : Int) := by omega
              have hj2 : (0 : Int) ≤ (i2 : Int) := by omega
              obtain ⟨r, hr⟩ : ∃ r, P[i2]? = some r := ⟨_, List.getElem?_eq_getElem (by rw [← HQ8.out]; exact hlt2)⟩
              have hrw := rowE_ext HR8.out (ext_trans HEO.out (ext_trans HE9.out HEN.out))
              obtain ⟨g2, rfl⟩ : ∃ g, A8 = some ⟨g, 0, none⟩ := by
                rcases rowE_cases hrw with ⟨_, h0⟩ | ⟨g, cap, cur, h1, _⟩
                · rw [h0] at hr; simp at hr
                · simp only [Value.slice.injEq] at h1
                  exact ⟨g, h1.1⟩
              have k0 : wn.cell? ⟨g2, i2 * 4, none⟩ = some (.int .i64 r.1.a) := rowE_cell hrw hr (j := 0) (u := .int .i64 r.1.a) rfl
              have k1 : wn.cell? ⟨g2, i2 * 4 + 1, none⟩ = some (.int .i64 r.1.b) := rowE_cell hrw hr (j := 1) (u := .int .i64 r.1.b) rfl
              have k2 : wn.cell? ⟨g2, i2 * 4 + 2, none⟩ = some (.int .i64 r.1.c) := rowE_cell hrw hr (j := 2) (u := .int .i64 r.1.c) rfl
              have k3' : wn.cell? ⟨g2, i2 * 4 + 3, none⟩ = some (.int .i64 (r.2 : Int)) := rowE_cell hrw hr (j := 3) (u := .int .i64 (r.2 : Int)) rfl
              have lg2 := (rowE_block hrw (g := g2) rfl).1
              have HST := Lib.hid (sumW_take hr p.1)
              have HSB := Lib.hid (HWB.out (i2 + 1))
              clear hr hrw
              have HRK := Lib.hid (show Ext W9 (wn.alloc (.cells #[.int .i64 r.1.a, .int .i64 r.1.b, .int .i64 r.1.c, .int .i64 (r.2 : Int)] 38)) from ext_alloc HEN.out _)
              have heq : ∀ w : World, (Op.equalIn 10000 36 (.agg #[.int .i64 r.1.a, .int .i64 r.1.b, .int .i64 r.1.c]) (.agg #[.int .i64 p.1.a, .int .i64 p.1.b, .int .i64 p.1.c])).run Try.prog w = .ok (decide (r.1 = p.1)) w := fun w => eqKk r.1 p.1 w
              by_cases hrp : r.1 = p.1
              · have hd : decide (r.1 = p.1) = true := by simpa using hrp
                have hst := HST.out
                rw [if_pos hrp] at hst
                have hsb := HSB.out
                have had : IntKind.i64.wrap ((sumW (P.take i2) p.1 : Int) + (r.2 : Int)) = (sumW (P.take (i2 + 1)) p.1 : Int) := by
                  rw [hst]
                  exact (IntWalk.i64_in _ (by omega)).trans (by push_cast; rfl)
                rw [hd] at heq
                clear hd hrp hst hsb
                go_wp2
                go_roundw
                case rel => exact ⟨i2 + 1, by omega, by go_num, by first | rfl | exact congrArg _ had, HRK.out⟩
                case measure => simp [intOf]; omega
              · have hd : decide (r.1 = p.1) = false := by simpa using hrp
                have hst := HST.out
                rw [if_neg hrp, Nat.add_zero] at hst
                rw [hd] at heq
                have HST' := Lib.hid hst
                clear hd hrp hst
                go_wp2
                go_roundw
                case rel => exact ⟨i2 + 1, by omega, by go_num, by rw [HST'.out, Nat.add_zero], HRK.out⟩
                case measure => simp [intOf]; omega
            · have h5 : i2 = q8 := by omega
              subst h5
              have h6 : sumW (P.take i2) p.1 = p.2 := by rw [HQ8.out, List.take_length]; exact HSP.out
              rw [h6]
              have hst := sumN_take HPI.out
              have hsl : sumN (M0.take (i + 1)) ≤ 40 := Nat.le_trans (sumN_le _ _) HM0.out
              have had : IntKind.i64.wrap ((sumN (M0.take i) : Int) + (p.2 : Int)) = (sumN (M0.take (i + 1)) : Int) := by
                rw [hst]
                exact (IntWalk.i64_in _ (by omega)).trans (by push_cast; rfl)
              have hex := ext_trans HEO.out (ext_trans HE9.out HEN.out)
              have HEXX := Lib.hid hex
              clear hst hsl h6 hex
              go_wp2
              go_roundw
              case rel => exact ⟨i + 1, by omega, by go_num, by first | rfl | exact congrArg _ had, HEXX.out⟩
              case measure => simp [intOf]; omega
        · have h5 : i = q0 := by omega
          subst h5
          have h6 : sumN (M0.take i) = sumN M0 := by rw [HQ0.out, List.take_length]
          rw [h6]
          clear h6
          have HPB : ∀ i3, sumN (P.take i3) ≤ 40 := fun i3 => Nat.le_trans (sumN_le _ _) (by rw [HMS.out]; exact HM0.out)
          have HPB' := Lib.hid HPB
          clear HPB
          go_wp2
          go_loopw [14, 109] (fun x y wr => ∃ i3 : Nat, i3 ≤ q8 ∧ y = .int .i64 (i3 : Int) ∧ x = .int .i64 ((sumN M0 : Int) - (sumN (P.take i3) : Int)) ∧ Ext w8 wr) (fun _ y _ => q8 - (intOf y).toNat)
          case atStart => exact ⟨0, by omega, rfl, by simp [sumN], HEO.out⟩
          case round =>
            rename World => wn
            obtain ⟨i3, hi3, rfl, rfl, hEn⟩ := hrel
            have HEN := Lib.hid hEn
            clear hEn
            by_cases hlt3 : i3 < q8
            · have hji3 : (i3 : Int) < (q8 : Int) := by omega
              have hj3 : (0 : Int) ≤ (i3 : Int) := by omega
              obtain ⟨r, hr⟩ : ∃ r, P[i3]? = some r := ⟨_, List.getElem?_eq_getElem (by rw [← HQ8.out]; exact hlt3)⟩
              have hrw := rowE_ext HR8.out HEN.out
              obtain ⟨g2, rfl⟩ : ∃ g, A8 = some ⟨g, 0, none⟩ := by
                rcases rowE_cases hrw with ⟨_, h0⟩ | ⟨g, cap, cur, h1, _⟩
                · rw [h0] at hr; simp at hr
                · simp only [Value.slice.injEq] at h1
                  exact ⟨g, h1.1⟩
              have k0 : wn.cell? ⟨g2, i3 * 4, none⟩ = some (.int .i64 r.1.a) := rowE_cell hrw hr (j := 0) (u := .int .i64 r.1.a) rfl
              have k1 : wn.cell? ⟨g2, i3 * 4 + 1, none⟩ = some (.int .i64 r.1.b) := rowE_cell hrw hr (j := 1) (u := .int .i64 r.1.b) rfl
              have k2 : wn.cell? ⟨g2, i3 * 4 + 2, none⟩ = some (.int .i64 r.1.c) := rowE_cell hrw hr (j := 2) (u := .int .i64 r.1.c) rfl
              have k3' : wn.cell? ⟨g2, i3 * 4 + 3, none⟩ = some (.int .i64 (r.2 : Int)) := rowE_cell hrw hr (j := 3) (u := .int .i64 (r.2 : Int)) rfl
              have lg2 := (rowE_block hrw (g := g2) rfl).1
              have hst := sumN_take hr
              have hsb := HPB'.out (i3 + 1)
              have hm0 := HM0.out
              have had : IntKind.i64.wrap ((sumN M0 : Int) - (sumN (P.take i3) : Int) - (r.2 : Int)) = (sumN M0 : Int) - (sumN (P.take (i3 + 1)) : Int) := by
                rw [hst]
                exact (IntWalk.i64_in _ (by omega)).trans (by push_cast; omega)
              have HRK := Lib.hid (show Ext w8 (wn.alloc (.cells #[.int .i64 r.1.a, .int .i64 r.1.b, .int .i64 r.1.c, .int .i64 (r.2 : Int)] 38)) from ext_alloc HEN.out _)
              clear hr hrw hst hsb hm0
              go_wp2
              go_roundw
              case rel => exact ⟨i3 + 1, by omega, by go_num, by first | rfl | exact congrArg _ had, HRK.out⟩
              case measure => simp [intOf]; omega
            · have h5 : i3 = q8 := by omega
              subst h5
              have h6 : (sumN M0 : Int) - (sumN (P.take i3) : Int) = 0 := by rw [HQ8.out, List.take_length, HMS.out]; omega
              rw [h6]
              have HF := Lib.hid (ext_trans HEW8.out HEN.out)
              clear h6
              go_wp2
              refine bodyPost_ret (results_tmp rfl _ _ _) rfl ?_
              exact ⟨rfl, HF.out⟩
end Go.Proofs.Ytojgbphmkloicaa
