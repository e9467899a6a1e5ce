/- Is; few; sum. -/
import Derived.Test.YtniggdaakiofeaaDoorTb
import Derived.Test.YtniggdaakiofeaaDoorSm
namespace Go.Proofs.YtniggdaakiofeaaDoor
open Go Go.RowKit Go.Sort
set_option maxHeartbeats 4000000

/-- a slice of bytes, of rows of bytes, that reads as a list -/
def RdU (w : World) (v : Value) (L : List Nat) : Prop := ∃ A c, v = .slice A L.length c ∧ L.length ≤ c ∧ (L ≠ [] → ∃ b off, A = some ⟨b, off, none⟩ ∧ b < w.heap.size ∧ ∀ (i : Nat) (x : Nat), L[i]? = some x → w.cell? ⟨b, off + i, none⟩ = some (.int .u8 (x : Int)) ∧ x < 256)
def RdUU (w : World) (v : Value) (R : List (List Nat)) : Prop := ∃ A c, v = .slice A R.length c ∧ R.length ≤ c ∧ (R ≠ [] → ∃ b off, A = some ⟨b, off, none⟩ ∧ b < w.heap.size ∧ ∀ (i : Nat) (x : List Nat), R[i]? = some x → ∃ u, w.cell? ⟨b, off + i, none⟩ = some u ∧ RdU w u x)
theorem rdU_ext {w w' : World} {v : Value} {L : List Nat} (h : RdU w v L) (hE : Ext w w') : RdU w' v L := by
  obtain ⟨A, c, h1, h2, h3⟩ := h
  refine ⟨A, c, h1, h2, fun hne => ?_⟩
  obtain ⟨b, off, h4, h5, h6⟩ := h3 hne
  exact ⟨b, off, h4, ext_lt hE h5, fun i x hx => ⟨(ext_cell hE _ _ h5).trans (h6 i x hx).1, (h6 i x hx).2⟩⟩
theorem rdUU_ext {w w' : World} {v : Value} {R : List (List Nat)} (h : RdUU w v R) (hE : Ext w w') : RdUU w' v R := by
  obtain ⟨A, c, h1, h2, h3⟩ := h
  refine ⟨A, c, h1, h2, fun hne => ?_⟩
  obtain ⟨b, off, h4, h5, h6⟩ := h3 hne
  refine ⟨b, off, h4, ext_lt hE h5, fun i x hx => ?_⟩
  obtain ⟨u, h7, h8⟩ := h6 i x hx
  exact ⟨u, (ext_cell hE _ _ h5).trans h7, rdU_ext h8 hE⟩
theorem rdU_form {w : World} {v : Value} {L : List Nat} (h : RdU w v L) : ∃ A c, v = .slice A L.length c := by
  obtain ⟨A, c, h1, _⟩ := h
  exact ⟨A, c, h1⟩
theorem rdUU_form {w : World} {v : Value} {L : List (List Nat)} (h : RdUU w v L) : ∃ A c, v = .slice A L.length c := by
  obtain ⟨A, c, h1, _⟩ := h
  exact ⟨A, c, h1⟩
theorem rdU_at {w : World} {A : Option Addr} {n c : Nat} {L : List Nat} (h : RdU w (.slice A n c) L) {i : Nat} {x : Nat} (hx : L[i]? = some x) : ∃ b off, A = some ⟨b, off, none⟩ ∧ b < w.heap.size ∧ w.cell? ⟨b, off + i, none⟩ = some (.int .u8 (x : Int)) ∧ x < 256 := by
  obtain ⟨A', c', h1, _, h3⟩ := h
  simp only [Value.slice.injEq] at h1
  obtain ⟨rfl, -, -⟩ := h1
  obtain ⟨b, off, h4, h5, h6⟩ := h3 (fun e => by rw [e] at hx; simp at hx)
  exact ⟨b, off, h4, h5, h6 i x hx⟩
theorem rdUU_at {w : World} {A : Option Addr} {n c : Nat} {R : List (List Nat)} (h : RdUU w (.slice A n c) R) {i : Nat} {x : List Nat} (hx : R[i]? = some x) : ∃ b off B d, A = some ⟨b, off, none⟩ ∧ b < w.heap.size ∧ w.cell? ⟨b, off + i, none⟩ = some (.slice B x.length d) ∧ RdU w (.slice B x.length d) x := by
  obtain ⟨A', c', h1, _, h3⟩ := h
  simp only [Value.slice.injEq] at h1
  obtain ⟨rfl, -, -⟩ := h1
  obtain ⟨b, off, h4, h5, h6⟩ := h3 (fun e => by rw [e] at hx; simp at hx)
  obtain ⟨u, h7, h8⟩ := h6 i x hx
  obtain ⟨B, d, rfl⟩ := rdU_form h8
  exact ⟨b, off, B, d, h4, h5, h7, h8⟩
def RawV (w : World) (v : Value) (xs : List Nat) (rs : List (List Nat)) : Prop := ∃ vv rv, v = .agg #[vv, rv] ∧ RdU w vv xs ∧ RdUU w rv rs
theorem rawV_ext {w w' : World} {v : Value} {xs : List Nat} {rs : List (List Nat)} (h : RawV w v xs rs) (hE : Ext w w') : RawV w' v xs rs := by
  obtain ⟨vv, rv, h1, h2, h3⟩ := h
  exact ⟨vv, rv, h1, rdU_ext h2 hE, rdUU_ext h3 hE⟩
def fewB (xs : List Nat) (rs : List (List Nat)) : Bool := rs.all (fun r => decide (r.length ≤ 20)) && (decide (rs.length ≤ 100) && decide (xs.length ≤ 100))
theorem few_any (v : Value) (xs : List Nat) (rs : List (List Nat)) (w : World) (h : RawV w v xs rs) (h1 : xs.length ≤ 9223372036854775807) (h2 : rs.length ≤ 9223372036854775807) (h3 : ∀ r ∈ rs, r.length ≤ 9223372036854775807) :
    Calls Tryd.prog 10 #[v] w fun e w' => e = .returned (.bool (fewB xs rs)) ∧ Ext w w' := by
  obtain ⟨vv, rv, rfl, a1, a2⟩ := h
  obtain ⟨A, c, rfl⟩ := rdU_form a1
  obtain ⟨B, d, rfl⟩ := rdUU_form a2
  have HW := Lib.hid a2
  have H3 := Lib.hid h3
  have HH0 := Lib.hid (heap_alloc_new w (.cells #[.slice A xs.length c, .slice B rs.length d] 25))
  have HE0 := Lib.hid (ext_alloc (ext_refl w) (.cells #[.slice A xs.length c, .slice B rs.length d] 25))
  clear a1 a2 h3
  go_enter Tryd.func10, Tryd.ntmps10
  go_wp2
  obtain ⟨w0, hw0⟩ : ∃ w0, w0 = w.alloc (.cells #[.slice A xs.length c, .slice B rs.length d] 25) := ⟨_, rfl⟩
  obtain ⟨b0, hb0⟩ : ∃ b0, b0 = w.heap.size := ⟨_, rfl⟩
  rw [← hw0, ← hb0] at HH0 ⊢
  rw [← hw0] at HE0
  clear hw0 hb0
  go_loopw [8] (fun z wr => ∃ j : Nat, j ≤ rs.length ∧ z = .int .i64 j ∧ (∀ (i : Nat) r, i < j → rs[i]? = some r → r.length ≤ 20) ∧ wr = w0) (fun z _ => rs.length - (intOf z).toNat)
  case atStart => exact ⟨0, Nat.zero_le _, rfl, fun i r h => absurd h (Nat.not_lt_zero _), rfl⟩
  case round =>
    obtain ⟨j, hj, rfl, hok, hw⟩ := hrel
    subst hw
    rename World => w0
    have HOK := Lib.hid hok
    have q0 : w0.cell? ⟨b0, 0, none⟩ = some (.slice A xs.length c) := block_cell HH0.out 0
    have q1 : w0.cell? ⟨b0, 1, none⟩ = some (.slice B rs.length d) := block_cell HH0.out 1
    have l0 := block_lt HH0.out
    clear hok
    by_cases hlt : j < rs.length
    · have hji : (j : Int) < (rs.length : Int) := by omega
      have hj0 : (0 : Int) ≤ (j : Int) := by omega
      obtain ⟨r, hr⟩ : ∃ r, rs[j]? = some r := ⟨_, List.getElem?_eq_getElem hlt⟩
      obtain ⟨b, off, R, k, rfl, hb, hc, -⟩ := rdUU_at (rdUU_ext HW.out HE0.out) hr
      have HR := Lib.hid hr
      have hrl := H3.out r (List.mem_of_getElem? hr)
      clear hr
      by_cases h20 : r.length ≤ 20
      · have h20' : ¬ (20 : Int) < (r.length : Int) := by omega
        have h20n : ¬ 20 < r.length := by omega
        go_wp2
        go_roundw
        case rel => exact ⟨j + 1, by omega, by go_num, fun i r' hi hr' => by
          rcases Nat.lt_or_ge i j with hh | hh
          · exact HOK.out i r' hh hr'
          · obtain rfl : i = j := by omega
            rw [HR.out] at hr'
            cases hr'
            exact h20, trivial⟩
        case measure => simp [intOf]; omega
      · have h20' : (20 : Int) < (r.length : Int) := by omega
        have h20n : 20 < r.length := by omega
        go_wp2
        refine bodyPost_ret (results_tmp rfl _ _ _) rfl ?_
        refine ⟨?_, HE0.out⟩
        have : rs.all (fun r => decide (r.length ≤ 20)) = false := by
          rw [List.all_eq_false]
          exact ⟨r, List.mem_of_getElem? HR.out, by simpa using h20n⟩
        unfold fewB
        rw [this]; rfl
    · obtain rfl : j = rs.length := by omega
      have hall : rs.all (fun r => decide (r.length ≤ 20)) = true := by
        rw [List.all_eq_true]
        intro r hr
        obtain ⟨i, hi, rfl⟩ := List.getElem_of_mem hr
        simpa using HOK.out i _ hi (List.getElem?_eq_getElem hi)
      have HF := Lib.hid (show fewB xs rs = (decide (rs.length ≤ 100) && decide (xs.length ≤ 100)) by unfold fewB; rw [hall, Bool.true_and])
      clear hall
      by_cases c1 : rs.length ≤ 100
      · have c1' : (rs.length : Int) ≤ 100 := by omega
        by_cases c2 : xs.length ≤ 100
        · have c2' : (xs.length : Int) ≤ 100 := by omega
          have HF2 := Lib.hid (show fewB xs rs = true by rw [HF.out, decide_eq_true c1, decide_eq_true c2]; rfl)
          go_wp2
          refine bodyPost_ret (results_tmp rfl _ _ _) rfl ?_
          exact ⟨by rw [HF2.out]; rfl, HE0.out⟩
        · have c2' : ¬ (xs.length : Int) ≤ 100 := by omega
          have HF2 := Lib.hid (show fewB xs rs = false by rw [HF.out, decide_eq_false c2, Bool.and_false])
          go_wp2
          refine bodyPost_ret (results_tmp rfl _ _ _) rfl ?_
          exact ⟨by rw [HF2.out]; rfl, HE0.out⟩
      · have c1' : ¬ (rs.length : Int) ≤ 100 := by omega
        have HF2 := Lib.hid (show fewB xs rs = false by rw [HF.out, decide_eq_false c1]; rfl)
        go_wp2
        refine bodyPost_ret (results_tmp rfl _ _ _) rfl ?_
        exact ⟨by rw [HF2.out]; rfl, HE0.out⟩

theorem sumR_take {r : List VarN} {j : Nat} {p : VarN} (h : r[j]? = some p) : sumR (r.take (j + 1)) = sumR (r.take j) + p.2 := by
  unfold sumR
  rw [List.take_add_one, h, Option.toList_some, List.map_append, List.sum_append]
  simp
theorem sumR_bound : ∀ (r : List VarN), (∀ p ∈ r, 0 ≤ p.2 ∧ p.2 ≤ 1000) → 0 ≤ sumR r ∧ sumR r ≤ 1000 * (r.length : Int)
  | [], _ => by simp [sumR]
  | p :: r, h => by
    have h1 := sumR_bound r (fun q hq => h q (List.mem_cons_of_mem _ hq))
    have h2 := h p (List.mem_cons_self ..)
    simp only [sumR, List.map_cons, List.sum_cons, List.length_cons] at h1 ⊢
    omega
theorem sum_any (v : Value) (r : List VarN) (w : World) (h : rowE elP w v r) (hl : r.length ≤ 1000000) (hs : ∀ p ∈ r, 0 ≤ p.2 ∧ p.2 ≤ 1000) :
    Calls Tryd.prog 29 #[v] w fun e w' => e = .returned (.int .i64 (sumR r)) ∧ Ext w w' := by
  obtain ⟨A, c, rfl⟩ := rowE_form h
  have HR := Lib.hid h
  have HS := Lib.hid hs
  clear h hs
  go_enter Tryd.func29, Tryd.ntmps29
  go_wp2
  go_loopw [8, 3] (fun z y wr => ∃ j : Nat, j ≤ r.length ∧ z = .int .i64 j ∧ y = .int .i64 (sumR (r.take j)) ∧ Ext w wr) (fun z _ _ => r.length - (intOf z).toNat)
  case atStart => exact ⟨0, Nat.zero_le _, rfl, rfl, ext_refl _⟩
  case round =>
    rename World => wo
    obtain ⟨j, hj, rfl, rfl, hE⟩ := hrel
    have HE := Lib.hid hE
    clear hE
    by_cases hlt : j < r.length
    · have hji : (j : Int) < (r.length : Int) := by omega
      have hj0 : (0 : Int) ≤ (j : Int) := by omega
      obtain ⟨q, hq⟩ : ∃ q, r[j]? = some q := ⟨_, List.getElem?_eq_getElem hlt⟩
      obtain ⟨g, rfl, hg⟩ := rowE_some HR.out (fun e => by rw [e] at hq; simp at hq)
      obtain ⟨q0, q1⟩ := rowP_cell (rowE_ext HR.out HE.out) hq
      have lg := ext_lt HE.out hg
      have HT := Lib.hid (sumR_take hq)
      have hb1 := sumR_bound (r.take j) (fun p hp => HS.out p (List.mem_of_mem_take hp))
      have hb2 := HS.out q (List.mem_of_getElem? hq)
      rw [List.length_take] at hb1
      obtain ⟨k, n⟩ := q
      obtain ⟨s, hs⟩ : ∃ s, s = sumR (r.take j) := ⟨_, rfl⟩
      rw [← hs] at hb1 HT ⊢
      have hsum : IntKind.i64.wrap (s + n) = s + n := IntWalk.i64_in _ (by simp only at hb2; omega)
      have HEA := Lib.hid (ext_alloc HE.out (.cells #[.string k, .int .i64 n] 81))
      clear hq hg hb1 hb2 hs
      go_wp2
      go_roundw
      case rel => exact ⟨j + 1, by omega, by go_num, by rw [HT.out], HEA.out⟩
      case measure => simp [intOf]; omega
    · obtain rfl : j = r.length := by omega
      go_wp2
      refine bodyPost_ret (results_tmp rfl _ _ _) rfl ?_
      exact ⟨by rw [List.take_length]; rfl, HE.out⟩

set_option maxRecDepth 100000 in
theorem is_yes (tv mv : Value) (V : List ByteArray) (M : List (List VarN)) (w : World) (ht : TabV w tv V (rowsD V M)) (hm : TD w mv V M) (hV : RiseS V) (hok : ∀ r ∈ M, okR V r) (hl : V.length ≤ 1000000) (hr : M.length ≤ 1000000) (hrl : ∀ r ∈ M, r.length ≤ 1000000) :
    Calls Tryd.prog 14 #[tv, mv] w fun e w' => e = .returned (.bool true) ∧ Ext w w' := by
  obtain ⟨tvv, trv, rfl, h1, h2⟩ := ht
  obtain ⟨mvv, mrv, rfl, h3, h4⟩ := hm
  obtain ⟨N, hN⟩ : ∃ N, N = rowsD V M := ⟨_, rfl⟩
  have hNl : N.length = M.length := by rw [hN]; simp [rowsD]
  have hNg : goodB V N = true := by rw [hN]; exact good_rows hV hok
  have hNx : ∀ x ∈ N, x.length = V.length := fun x hx => by
    rw [hN] at hx
    obtain ⟨r, _, rfl⟩ := List.mem_map.1 hx
    simp [rowD]
  rw [← hN] at h2
  have HN := Lib.hid hN
  have HNG := Lib.hid hNg
  have HNX := Lib.hid hNx
  obtain ⟨A1, c1, rfl⟩ := rdS_form h1
  obtain ⟨A2, c2, rfl⟩ := rdW_form h2
  obtain ⟨A3, c3, rfl⟩ := rowE_form h3
  obtain ⟨A4, c4, rfl⟩ := rdQ_form h4
  have HT := Lib.hid (show TabV w (.agg #[.slice A1 V.length c1, .slice A2 N.length c2]) V N from ⟨_, _, rfl, h1, h2⟩)
  have H1 := Lib.hid h1
  have H2 := Lib.hid h2
  have H3 := Lib.hid h3
  have H4 := Lib.hid h4
  have HVV := Lib.hid hV
  have HOK := Lib.hid hok
  have HRL := Lib.hid hrl
  obtain ⟨g0, g1⟩ := heap_two w (.cells #[.slice A1 V.length c1, .slice A2 N.length c2] 31) (.cells #[.slice A3 V.length c3, .slice A4 M.length c4] 34)
  have HG0 := Lib.hid g0
  have HG1 := Lib.hid g1
  have HE0 := Lib.hid (ext_alloc (ext_alloc (ext_refl w) (.cells #[.slice A1 V.length c1, .slice A2 N.length c2] 31)) (.cells #[.slice A3 V.length c3, .slice A4 M.length c4] 34))
  have HGOOD := Lib.hid (good_any (.agg #[.slice A1 V.length c1, .slice A2 N.length c2]) V N _ (tabV_ext HT.out HE0.out) hl (by omega) (fun x hx => by rw [HNX.out x hx]; omega))
  rw [HNG.out] at HGOOD
  have HNL := Lib.hid hNl
  have hne : ((N.length : Int) != (M.length : Int)) = false := by rw [hNl]; simp
  clear h1 h2 h3 h4 hV hok hrl hN hNg hNx g0 g1 hNl
  go_enter Tryd.func14, Tryd.ntmps14
  go_wp2_with (go_at_call 39; refine HGOOD.out.mono ?_; rintro e w1 ⟨rfl, hE1⟩; have hg0 := (ext_block hE1 (block_lt HG0.out)).trans HG0.out; have hg1 := (ext_block hE1 (block_lt HG1.out)).trans HG1.out; have q0 : w1.cell? ⟨w.heap.size, 0, none⟩ = some (.slice A1 V.length c1) := block_cell hg0 0; have q1 : w1.cell? ⟨w.heap.size, 1, none⟩ = some (.slice A2 N.length c2) := block_cell hg0 1; have q2 : w1.cell? ⟨w.heap.size + 1, 0, none⟩ = some (.slice A3 V.length c3) := block_cell hg1 0; have q3 : w1.cell? ⟨w.heap.size + 1, 1, none⟩ = some (.slice A4 M.length c4) := block_cell hg1 1; have l0 := block_lt hg0; have l1 := block_lt hg1; have HE1 := Lib.hid (ext_trans HE0.out hE1); have HB0 := Lib.hid hg0; have HB1 := Lib.hid hg1; clear hE1 hg0 hg1)
  obtain ⟨b0, hb0⟩ : ∃ b0, b0 = w.heap.size := ⟨_, rfl⟩
  obtain ⟨b1, hb1⟩ : ∃ b1, b1 = w.heap.size + 1 := ⟨_, rfl⟩
  rename World => w1
  rw [← hb1, ← hb0]
  rw [← hb0] at HB0
  rw [← hb1] at HB1
  clear hb0 hb1 HG0 HG1 HE0 HGOOD q0 q1 q2 q3 l0 l1
  go_loopw [35] (fun z wr => ∃ j : Nat, j ≤ V.length ∧ z = .int .i64 j ∧ wr = w1) (fun z _ => V.length - (intOf z).toNat)
  case atStart => exact ⟨0, Nat.zero_le _, rfl, rfl⟩
  case round =>
    obtain ⟨j, hj, rfl, hw⟩ := hrel
    subst hw
    rename World => w1
    have q0 : w1.cell? ⟨b0, 0, none⟩ = some (.slice A1 V.length c1) := block_cell HB0.out 0
    have q1 : w1.cell? ⟨b0, 1, none⟩ = some (.slice A2 N.length c2) := block_cell HB0.out 1
    have q2 : w1.cell? ⟨b1, 0, none⟩ = some (.slice A3 V.length c3) := block_cell HB1.out 0
    have q3 : w1.cell? ⟨b1, 1, none⟩ = some (.slice A4 M.length c4) := block_cell HB1.out 1
    have l0 := block_lt HB0.out
    have l1 := block_lt HB1.out
    by_cases hlt : j < V.length
    · have hji : (j : Int) < (V.length : Int) := by omega
      have hj0 : (0 : Int) ≤ (j : Int) := by omega
      obtain ⟨x, hx⟩ : ∃ x, V[j]? = some x := ⟨_, List.getElem?_eq_getElem hlt⟩
      obtain ⟨b, off, rfl, hb, q4⟩ := rdS_at (rdS_ext H1.out HE1.out) hx
      obtain ⟨g, rfl, hg⟩ := rowE_some H3.out (fun e => by rw [e] at hx; simp at hx)
      have q5 := rowS_cell (rowE_ext H3.out HE1.out) hx
      have lg := ext_lt HE1.out hg
      clear hx hg
      go_wp2
      go_roundw
      case rel => exact ⟨j + 1, by omega, by go_num, trivial⟩
      case measure => simp [intOf]; omega
    · obtain rfl : j = V.length := by omega
      go_wp2
      clear q0 q1 q2 q3 l0 l1
      go_loopw [51] (fun z wr => ∃ j : Nat, j ≤ N.length ∧ z = .int .i64 j ∧ Ext w1 wr) (fun z _ => N.length - (intOf z).toNat)
      case atStart => exact ⟨0, Nat.zero_le _, rfl, ext_refl _⟩
      case round =>
        rename World => wo
        obtain ⟨i, hi, rfl, hE⟩ := hrel
        have HE := Lib.hid hE
        have HEO := Lib.hid (ext_trans HE1.out hE)
        clear hE
        by_cases hlt : i < N.length
        · have hii : (i : Int) < (N.length : Int) := by omega
          have hiM : (i : Int) < (M.length : Int) := by have := HNL.out; omega
          have hi0 : (0 : Int) ≤ (i : Int) := by omega
          obtain ⟨r, hr⟩ : ∃ r, M[i]? = some r := ⟨_, List.getElem?_eq_getElem (by have := HNL.out; omega)⟩
          have hx : N[i]? = some (rowD V r) := by rw [HN.out, rowsD, List.getElem?_map, hr]; rfl
          obtain ⟨x, hxe⟩ : ∃ x, x = rowD V r := ⟨_, rfl⟩
          rw [← hxe] at hx
          have HXE := Lib.hid hxe
          have HXL := Lib.hid (HNX.out x (List.mem_of_getElem? hx))
          have HRO := Lib.hid (HOK.out r (List.mem_of_getElem? hr))
          have HRLr := Lib.hid (HRL.out r (List.mem_of_getElem? hr))
          obtain ⟨b, off, B, d, rfl, hb, hc, hri⟩ := rdW_at H2.out hx
          obtain ⟨b', B', d', rfl, hb', hc', hri'⟩ := rdQ_at H4.out hr
          have HRI := Lib.hid hri
          have HRI' := Lib.hid hri'
          have hc := (ext_cell HEO.out _ _ hb).trans hc
          have hlb := ext_lt HEO.out hb
          have HB' := Lib.hid hb'
          have HC' := Lib.hid hc'
          have hbx := (ext_block HE.out (block_lt HB1.out)).trans HB1.out
          have q2 : wo.cell? ⟨b1, 0, none⟩ = some (.slice A3 V.length c3) := block_cell hbx 0
          have l1 := block_lt hbx
          clear hr hx hri hri' hxe hb hb' hc' hbx
          go_wp2
          clear hc hlb q2 l1
          go_loopw [59] (fun z wr => ∃ k : Nat, k ≤ V.length ∧ z = .int .i64 k ∧ Ext wo wr) (fun z _ => V.length - (intOf z).toNat)
          case atStart => exact ⟨0, Nat.zero_le _, rfl, ext_refl _⟩
          case round =>
            rename World => wi
            obtain ⟨k, hk, rfl, hE⟩ := hrel
            have HEI := Lib.hid (ext_trans HE.out hE)
            have HEW := Lib.hid (ext_trans HEO.out hE)
            have HEOI := Lib.hid hE
            clear hE
            by_cases hkl : k < V.length
            · have hki : (k : Int) < (V.length : Int) := by omega
              have hk0 : (0 : Int) ≤ (k : Int) := by omega
              obtain ⟨y, hy⟩ : ∃ y, V[k]? = some y := ⟨_, List.getElem?_eq_getElem hkl⟩
              obtain ⟨g, rfl, hg⟩ := rowE_some H3.out (fun e => by rw [e] at hy; simp at hy)
              have q5 := rowS_cell (rowE_ext H3.out HEW.out) hy
              have lg := ext_lt HEW.out hg
              have CV := Lib.hid (fun w' (hE : Ext wi w') => value_any _ (.slice B x.length d) V N x y w' (tabV_ext HT.out (ext_trans HEW.out hE)) (rdI_ext HRI.out (ext_trans HEW.out hE)) HVV.out hl HXL.out)
              rw [HXE.out, valN_rowD HRO.out, ← HXE.out] at CV
              have CG := Lib.hid (show ∀ w', Ext wi w' → Calls Tryd.prog 48 #[.slice B' r.length d', .string y] w' (fun e w'' => e = .returned (.int .i64 (getR r y)) ∧ Ext w' w'') from fun w' hE => (get_any (.slice B' r.length d') r y w' (rowE_ext HRI'.out (ext_trans HEW.out hE)) HRLr.out).mono fun e w'' h => ⟨h.1, h.2 ▸ ext_refl _⟩)
              obtain ⟨n, hn⟩ : ∃ n, n = getR r y := ⟨_, rfl⟩
              rw [← hn] at CV CG
              have hb0' := (ext_block HEI.out (block_lt HB0.out)).trans HB0.out
              have hb1' := (ext_block HEI.out (block_lt HB1.out)).trans HB1.out
              have q0 : wi.cell? ⟨b0, 0, none⟩ = some (.slice A1 V.length c1) := block_cell hb0' 0
              have q1 : wi.cell? ⟨b0, 1, none⟩ = some (.slice (some ⟨b, off, none⟩) N.length c2) := block_cell hb0' 1
              have q3 : wi.cell? ⟨b1, 1, none⟩ = some (.slice (some ⟨b', 0, none⟩) M.length c4) := block_cell hb1' 1
              have l0 := block_lt hb0'
              have l1 := block_lt hb1'
              have q6 := (ext_cell HEW.out _ _ HB'.out).trans HC'.out
              have l6 := ext_lt HEW.out HB'.out
              clear hy hg hn hb0' hb1'
              have hgc := cell_grown
              go_wp2
              refine wp_region_free 12 [0, 1, 2, 3, 4, 5, 6, 7, 8, 9, 10, 11] [] (by kernel_rfl) (by kernel_rfl) ?_
              repeat (refine wpLoose_step rfl (fun K hK => ?_); (try simp only [Oper.quietAt, Oper.quietUpon]); go_simp; first | (refine hK _ ?_; clear hK K) | (apply Exists.intro; refine ⟨fun p => ?_, hK _ ?_⟩; (first | (go_at_call 47; exact CV.out _ (ext_grow (ext_refl _) _ _)) | (go_at_call 48; exact CG.out _ (ext_grow (ext_refl _) _ _))); clear hK K))
              refine wpLoose_nil (wpFresh_nil (fun w3 hE3 _ => ?_))
              have HE3 := Lib.hid (ext_trans HEOI.out hE3)
              clear hE3 q0 q1 q3 q5 q6 l0 l1 l6 lg hgc
              simp only [List.drop_succ_cons, List.drop_zero]
              refine wpList_nil ?_
              go_wp2
              go_roundw
              case rel => exact ⟨k + 1, by omega, by go_num, HE3.out⟩
              case measure => simp [intOf]; omega
            · obtain rfl : k = V.length := by omega
              go_wp2
              go_roundw
              case rel => exact ⟨i + 1, by omega, by go_num, HEI.out⟩
              case measure => simp [intOf]; omega
        · obtain rfl : i = N.length := by omega
          go_wp2
          refine bodyPost_ret (results_tmp rfl _ _ _) rfl ?_
          exact ⟨rfl, HEO.out⟩
end Go.Proofs.YtniggdaakiofeaaDoor
