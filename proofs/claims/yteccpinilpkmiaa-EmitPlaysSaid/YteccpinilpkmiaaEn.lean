/- few; the document's Next. -/
import Derived.Test.YteccpinilpkmiaaEm
namespace Go.Proofs.Yteccpinilpkmiaa
open Go Go.RowKit Go.Sort Go.Shelf
set_option maxHeartbeats 800000

/-- results as they lie -/
def RdSS (w : World) (v : Value) (LL : List (List ByteArray)) : Prop := ∃ A c, v = .slice A LL.length c ∧ (LL ≠ [] → ∃ b off, A = some ⟨b, off, none⟩ ∧ b < w.heap.size ∧ ∀ (i : Nat) (L : List ByteArray), LL[i]? = some L → ∃ u, w.cell? ⟨b, off + i, none⟩ = some u ∧ RdS w u L)
theorem rdSS_ext {w w' : World} {v : Value} {LL : List (List ByteArray)} (h : RdSS w v LL) (hE : Ext w w') : RdSS w' v LL := by
  obtain ⟨A, c, h1, h3⟩ := h
  refine ⟨A, c, h1, fun hne => ?_⟩
  obtain ⟨b, off, h4, h5, h6⟩ := h3 hne
  refine ⟨b, off, h4, ext_lt hE h5, fun i L hi => ?_⟩
  obtain ⟨u, h7, h8⟩ := h6 i L hi
  exact ⟨u, (ext_cell hE _ _ h5).trans h7, rdS_ext h8 hE⟩
def shortB (L : List ByteArray) : Bool := decide (L.length ≤ 20)
def fewB (LL : List (List ByteArray)) : Bool := LL.all shortB && decide (LL.length ≤ 12)
theorem few_any (v : Value) (LL : List (List ByteArray)) (w : World) (h : RdSS w v LL) (hm : LL.length ≤ maxLen) (hM : ∀ L ∈ LL, L.length ≤ maxLen) :
    Calls Try.prog 9 #[v] w fun e w' => e = .returned (.bool (fewB LL)) ∧ w' = w := by
  obtain ⟨A, c, rfl, hA⟩ := h
  have HA := Lib.hid hA
  have HM := Lib.hid hM
  unfold maxLen at hm
  obtain ⟨n, hn⟩ : ∃ n, n = LL.length := ⟨_, rfl⟩
  have HN := Lib.hid hn
  rw [← hn] at hm ⊢
  clear hA hM hn
  go_enter Try.func9, Try.ntmps9
  go_wp2
  go_loop [7] (fun x => ∃ j : Nat, j ≤ n ∧ x = .int .i64 j ∧ (LL.take j).all shortB = true) (fun x => n - (intOf x).toNat)
  case atStart => exact ⟨0, Nat.zero_le _, rfl, rfl⟩
  case round =>
    obtain ⟨j, hj, rfl, hpre⟩ := hrel
    have HP := Lib.hid hpre
    clear hpre
    by_cases hlt : j < n
    · obtain ⟨L, hL⟩ : ∃ L, LL[j]? = some L := ⟨_, List.getElem?_eq_getElem (by have := HN.out; omega)⟩
      obtain ⟨b, off, hA0, hb, hc⟩ := HA.out (fun e => by rw [e] at hL; simp at hL)
      obtain ⟨u, q0, B, d, rfl, -, -⟩ := hc j L hL
      subst hA0
      have hLm := HM.out L (List.mem_of_getElem? hL)
      unfold maxLen at hLm
      have HL := Lib.hid hL
      clear hL hc
      have hjn : (j : Int) < (n : Int) := by omega
      have hj0 : (0 : Int) ≤ (j : Int) := by omega
      by_cases h20 : 20 < L.length
      · have hd : decide ((20 : Int) < (L.length : Int)) = true := by simp; omega
        go_wp2
        refine bodyPost_ret (results_tmp rfl _ _ _) rfl ?_
        refine ⟨?_, rfl⟩
        have : fewB LL = false := by
          rw [fewB, Bool.and_eq_false_iff]
          left
          rw [List.all_eq_false]
          exact ⟨L, List.mem_of_getElem? HL.out, by simp [shortB]; omega⟩
        rw [this]
        rfl
      · have hd : decide ((20 : Int) < (L.length : Int)) = false := by simp; omega
        go_wp2
        go_round
        case rel =>
          refine ⟨j + 1, by omega, by go_num, ?_⟩
          rw [List.take_add_one, List.all_append, HP.out, HL.out]
          simp [shortB]
          omega
        case measure => simp [intOf]; omega
    · obtain rfl : j = n := by omega
      have hall : LL.all shortB = true := by
        have := HP.out
        rwa [HN.out, List.take_length] at this
      have HALL := Lib.hid hall
      clear hall
      go_wp2
      refine bodyPost_ret (results_tmp rfl _ _ _) rfl ?_
      refine ⟨?_, rfl⟩
      rw [fewB, HALL.out, Bool.true_and, ← HN.out]
      congr 2
      simp
      omega

def refNextL (n : Int) (was now : List ByteArray) : List ByteArray := if n = 1 then lessR now was else if n = 2 then lessR was now else sortR now
theorem refnext_any (n : Int) (v1 v2 : Value) (L M : List ByteArray) (w : World) (h1 : RdS w v1 L) (h2 : RdS w v2 M) (hl : L.length ≤ 100000) (hm : M.length ≤ 100000) :
    Calls Try.prog 18 #[.int .i64 n, v1, v2] w fun e w' => ∃ lv', e = .returned lv' ∧ rowF elS w.heap.size (refNextL n L M) lv' w' ∧ Ext w w' := by
  have c1 := Lib.hid (refless_any v2 v1 M L w h2 h1 hm hl)
  have c2 := Lib.hid (refless_any v1 v2 L M w h1 h2 hl hm)
  have c3 := Lib.hid (refsort_any v2 M w h2 hm)
  by_cases e1 : n = 1
  · have E := Lib.hid e1
    have g1 : (n == 1) = true := by simpa using e1
    clear e1
    go_enter Try.func18, Try.ntmps18
    go_wp2_with (go_at_call 15; refine c1.out.mono ?_; rintro e w1 ⟨v1, rfl, hr1, hE1⟩)
    refine bodyPost_ret (results_tmp rfl _ _ _) rfl ?_
    exact ⟨_, rfl, by rw [refNextL, if_pos E.out]; exact hr1, hE1⟩
  have g1 : (n == 1) = false := by simpa using e1
  by_cases e2 : n = 2
  · have E := Lib.hid e2
    have g2 : (n == 2) = true := by simpa using e2
    clear e2
    have E1 := Lib.hid e1
    clear e1
    go_enter Try.func18, Try.ntmps18
    go_wp2_with (go_at_call 15; refine c2.out.mono ?_; rintro e w1 ⟨v1, rfl, hr1, hE1⟩)
    refine bodyPost_ret (results_tmp rfl _ _ _) rfl ?_
    exact ⟨_, rfl, by rw [refNextL, if_neg E1.out, if_pos E.out]; exact hr1, hE1⟩
  have g2 : (n == 2) = false := by simpa using e2
  have E1 := Lib.hid e1
  have E2 := Lib.hid e2
  clear e1 e2
  go_enter Try.func18, Try.ntmps18
  go_wp2_with (go_at_call 12; refine c3.out.mono ?_; rintro e w1 ⟨v1, rfl, hr1, hE1⟩)
  refine bodyPost_ret (results_tmp rfl _ _ _) rfl ?_
  exact ⟨_, rfl, by rw [refNextL, if_neg E1.out, if_neg E2.out]; exact hr1, hE1⟩
end Go.Proofs.Yteccpinilpkmiaa
