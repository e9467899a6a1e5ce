/- compatible; joined. -/
import Derived.Test.YtniggdaakiofeaaDoorSg
namespace Go.Proofs.YtniggdaakiofeaaDoor
open Go Go.RowKit Go.Sort
set_option maxHeartbeats 4000000

/-- what fells two rows at a var -/
def offB (n m : Int) : Bool := decide (0 ≤ n) && decide (0 ≤ m) && (n != m)
theorem compB_off (U V : List ByteArray) (x y : List Int) : compB U V x y = (List.range U.length).all fun i => !offB (valN V y (U.getD i ⟨#[]⟩)) (x.getD i (-1)) := rfl
theorem comp_yes {U V : List ByteArray} {x y : List Int} (h : ∀ (i : Nat) u m, i < U.length → U[i]? = some u → x[i]? = some m → offB (valN V y u) m = false) (hl : x.length = U.length) : compB U V x y = true := by
  rw [compB_off, List.all_eq_true]
  intro i hi
  have hi' := List.mem_range.1 hi
  have h1 : U[i]? = some U[i] := List.getElem?_eq_getElem hi'
  have h2 : x[i]? = some (x[i]'(by omega)) := List.getElem?_eq_getElem (by omega)
  have := h i _ _ hi' h1 h2
  rw [List.getD_eq_getElem?_getD, List.getD_eq_getElem?_getD, h1, h2]
  simpa using this
theorem comp_no {U V : List ByteArray} {x y : List Int} {i : Nat} {u : ByteArray} {m : Int} (h1 : U[i]? = some u) (h2 : x[i]? = some m) (h : offB (valN V y u) m = true) : compB U V x y = false := by
  rw [compB_off, List.all_eq_false]
  refine ⟨i, List.mem_range.2 (List.getElem?_eq_some_iff.1 h1).1, ?_⟩
  rw [List.getD_eq_getElem?_getD, List.getD_eq_getElem?_getD, h1, h2]
  simpa using h
theorem off_next {U V : List ByteArray} {x y : List Int} {j : Nat} {u : ByteArray} {m : Int} (h : ∀ (i : Nat) u m, i < j → U[i]? = some u → x[i]? = some m → offB (valN V y u) m = false) (h1 : U[j]? = some u) (h2 : x[j]? = some m) (h3 : offB (valN V y u) m = false) : ∀ (i : Nat) u m, i < j + 1 → U[i]? = some u → x[i]? = some m → offB (valN V y u) m = false := by
  intro i u' m' hi hu hm
  rcases Nat.lt_or_ge i j with hh | hh
  · exact h i u' m' hh hu hm
  · obtain rfl : i = j := by omega
    rw [h1] at hu; rw [h2] at hm
    cases hu; cases hm
    exact h3
theorem off_yes {n m : Int} (h : offB n m = true) : 0 ≤ n ∧ 0 ≤ m ∧ (n != m) = true := by
  simp only [offB, Bool.and_eq_true, decide_eq_true_eq] at h
  exact ⟨h.1.1, h.1.2, h.2⟩
theorem off_no {n m : Int} (h : offB n m = false) : ¬ 0 ≤ n ∨ (0 ≤ n ∧ ¬ 0 ≤ m) ∨ (0 ≤ n ∧ 0 ≤ m ∧ (n != m) = false) := by
  by_cases h1 : 0 ≤ n
  · by_cases h2 : 0 ≤ m
    · exact .inr (.inr ⟨h1, h2, by simpa [offB, h1, h2] using h⟩)
    · exact .inr (.inl ⟨h1, h2⟩)
  · exact .inl h1
set_option maxRecDepth 100000 in
theorem comp_any (av bv xv yv : Value) (U V : List ByteArray) (R S : List (List Int)) (x y : List Int) (w : World) (ha : TabV w av U R) (hb : TabV w bv V S) (hx : RdI w xv x) (hy : RdI w yv y) (hV : RiseS V) (hu : U.length ≤ 1000000) (hm : V.length ≤ 1000000) (hlx : x.length = U.length) (hly : y.length = V.length) :
    Calls Tryd.prog 44 #[av, bv, xv, yv] w fun e w' => e = .returned (.bool (compB U V x y)) ∧ Ext w w' := by
  have HVAL := Lib.hid (fun (v : ByteArray) w' (hE : Ext w w') => value_any bv yv V S y v w' (tabV_ext hb hE) (rdI_ext hy hE) hV hm hly)
  obtain ⟨avv, arv, rfl, h1, h2⟩ := ha
  obtain ⟨bvv, brv, rfl, h3, h4⟩ := hb
  obtain ⟨A, c, rfl⟩ := rdS_form h1
  obtain ⟨A2, c2, rfl⟩ := rdW_form h2
  obtain ⟨B, d, rfl⟩ := rdS_form h3
  obtain ⟨B2, d2, rfl⟩ := rdW_form h4
  obtain ⟨X, k, rfl⟩ := rdI_form hx
  obtain ⟨Y, l, rfl⟩ := rdI_form hy
  have HU := Lib.hid h1
  have HX := Lib.hid hx
  have HLX := Lib.hid hlx
  clear h1 h2 h3 h4 hx hy hV hly hlx
  go_enter Tryd.func44, Tryd.ntmps44
  obtain ⟨hb0, hb1⟩ := heap_two w (.cells #[.slice A U.length c, .slice A2 R.length c2] 31) (.cells #[.slice B V.length d, .slice B2 S.length d2] 31)
  have HE0 := Lib.hid (ext_alloc (ext_alloc (ext_refl w) (.cells #[.slice A U.length c, .slice A2 R.length c2] 31)) (.cells #[.slice B V.length d, .slice B2 S.length d2] 31))
  have HB1 := Lib.hid hb1
  clear hb0 hb1
  go_wp2
  obtain ⟨w0, hw0⟩ : ∃ w0, w0 = (w.alloc (.cells #[.slice A U.length c, .slice A2 R.length c2] 31)).alloc (.cells #[.slice B V.length d, .slice B2 S.length d2] 31) := ⟨_, rfl⟩
  obtain ⟨g, hg⟩ : ∃ g, g = w.heap.size + 1 := ⟨_, rfl⟩
  rw [← hw0] at HB1 HE0 ⊢
  rw [← hg] at HB1 ⊢
  clear hw0 hg
  go_loopw [15] (fun z wr => ∃ j : Nat, j ≤ U.length ∧ z = .int .i64 j ∧ (∀ (i : Nat) u m, i < j → U[i]? = some u → x[i]? = some m → offB (valN V y u) m = false) ∧ Ext w0 wr) (fun z _ => U.length - (intOf z).toNat)
  case atStart => exact ⟨0, Nat.zero_le _, rfl, fun i u m h => absurd h (Nat.not_lt_zero _), ext_refl _⟩
  case round =>
    rename World => wo
    obtain ⟨j, hj, rfl, hno, hE⟩ := hrel
    have HE := Lib.hid hE
    have HEw := Lib.hid (ext_trans HE0.out hE)
    have HNO := Lib.hid hno
    clear hE hno
    by_cases hlt : j < U.length
    · have hji : (j : Int) < (U.length : Int) := by omega
      have hj0 : (0 : Int) ≤ (j : Int) := by omega
      have hjx : j < x.length := by have := HLX.out; omega
      have hjxi : (j : Int) < (x.length : Int) := by omega
      obtain ⟨u, hu'⟩ : ∃ u, U[j]? = some u := ⟨_, List.getElem?_eq_getElem hlt⟩
      obtain ⟨m, hm'⟩ : ∃ m, x[j]? = some m := ⟨_, List.getElem?_eq_getElem hjx⟩
      have HU' := Lib.hid hu'
      have HM' := Lib.hid hm'
      obtain ⟨b, o, rfl, hb, hc⟩ := rdS_at (rdS_ext HU.out HEw.out) hu'
      obtain ⟨b', o', rfl, hb', hc'⟩ := rdI_at (rdI_ext HX.out HEw.out) hm'
      have hbx := (ext_block HE.out (block_lt HB1.out)).trans HB1.out
      have q0 : wo.cell? ⟨g, 0, none⟩ = some (.slice B V.length d) := block_cell hbx 0
      have q1 : wo.cell? ⟨g, 1, none⟩ = some (.slice B2 S.length d2) := block_cell hbx 1
      have lg := block_lt hbx
      have HV' := Lib.hid (HVAL.out u wo HEw.out)
      have HC' := Lib.hid hc'
      obtain ⟨n, hn⟩ : ∃ n, n = valN V y u := ⟨_, rfl⟩
      rw [← hn] at HV'
      have HN := Lib.hid hn
      clear hu' hm' hbx hn hc'
      by_cases hoff : offB n m = true
      · have HOFF := Lib.hid hoff
        obtain ⟨hn0, hm0, hne⟩ := off_yes hoff
        clear hoff
        go_wp2_with (go_at_call 47; refine HV'.out.mono ?_; rintro e w1 ⟨rfl, hE1⟩; have HE1 := Lib.hid hE1; have q2 := (ext_cell HE1.out _ _ hb').trans HC'.out; have lb2 := ext_lt HE1.out hb'; clear hE1)
        refine bodyPost_ret (results_tmp rfl _ _ _) rfl ?_
        exact ⟨by rw [comp_no HU'.out HM'.out (by rw [← HN.out]; exact HOFF.out)]; rfl, ext_trans HEw.out HE1.out⟩
      · have hoff' : offB n m = false := by simpa using hoff
        have HOFF := Lib.hid hoff'
        rcases off_no hoff' with hn0 | ⟨hn0, hm0⟩ | ⟨hn0, hm0, hne⟩
        all_goals
          clear hoff hoff'
          go_wp2_with (go_at_call 47; refine HV'.out.mono ?_; rintro e w1 ⟨rfl, hE1⟩; have HE1 := Lib.hid hE1; have q2 := (ext_cell HE1.out _ _ hb').trans HC'.out; have lb2 := ext_lt HE1.out hb'; clear hE1)
          go_roundw
          case rel => exact ⟨j + 1, by omega, by go_num, off_next HNO.out HU'.out HM'.out (by rw [← HN.out]; exact HOFF.out), ext_trans HE.out HE1.out⟩
          case measure => simp [intOf]; omega
    · obtain rfl : j = U.length := by omega
      go_wp2
      refine bodyPost_ret (results_tmp rfl _ _ _) rfl ?_
      exact ⟨by rw [comp_yes HNO.out HLX.out]; rfl, ext_trans HE0.out HE.out⟩
end Go.Proofs.YtniggdaakiofeaaDoor
