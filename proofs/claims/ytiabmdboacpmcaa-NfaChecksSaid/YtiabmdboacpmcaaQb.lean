/- NfaChecks. -/
import Derived.Test.YtiabmdboacpmcaaQa
namespace Go.Proofs.Ytiabmdboacpmcaa
open Go Go.RowKit Go.Sort
set_option maxHeartbeats 1000000

theorem checks_law (v : Value) (L : List Nd) (w : World) (hv : RdNd w v L) (hL : L.length ≤ maxLen) : Calls Try.prog 3 #[v] w fun e w' => e = .returned (.bool true) ∧ Ext w w' := by
  have HV := Lib.hid hv
  obtain ⟨A0, c0, rfl, hc0, hb0, hA⟩ := hv
  have HA := Lib.hid hA
  have HB0 := Lib.hid hb0
  clear hA hb0
  go_enter Try.func3, Try.ntmps3
  go_wp2_with (go_at_call 19; refine (awake_any _).mono ?_; rintro e w1 ⟨rfl, hE1⟩; have HE1 := Lib.hid hE1; clear hE1)
  · rename_i wa HEa0 _
    refine bodyPost_ret (results_tmp rfl _ _ _) rfl ?_
    exact ⟨rfl, ext_trans HEa0.out HE1.out⟩
  go_loopw [20] (fun x wr => ∃ j : Nat, j ≤ L.length ∧ x = .int .i64 (j : Int) ∧ Ext w wr) (fun x _ => L.length - (intOf x).toNat)
  case atStart => exact ⟨0, Nat.zero_le _, rfl, HE1.out⟩
  case round =>
    rename World => wo
    obtain ⟨j, hj, rfl, hE⟩ := hrel
    have HE := Lib.hid hE
    clear hE
    have h60 : L.length ≤ 60 := by omega
    by_cases hlt : j < L.length
    · obtain ⟨x, hx⟩ : ∃ x, L[j]? = some x := ⟨_, List.getElem?_eq_getElem hlt⟩
      obtain ⟨lb, off, hA0, hlb, hcs⟩ := HA.out (fun e => by rw [e] at hx; simp at hx)
      obtain ⟨x0, x1, xs⟩ := x
      obtain ⟨j0, j1, vs, j2, j3⟩ := hcs j _ hx
      obtain ⟨A9, c9, rfl, hc9, _, _⟩ := j3
      have q0 := (ext_cell HE.out _ _ hlb).trans j0
      have q1 := (ext_cell HE.out _ _ hlb).trans j1
      have q2 := (ext_cell HE.out _ _ hlb).trans j2
      have llb := ext_lt HE.out hlb
      subst hA0
      have hji : (j : Int) < (L.length : Int) := by omega
      have hj0 : (0 : Int) ≤ (j : Int) := by omega
      clear j0 j1 j2 hcs hx
      by_cases h20 : 20 < xs.length
      · have h20i : (20 : Int) < (xs.length : Int) := by omega
        go_wp2
        refine bodyPost_ret (results_tmp rfl _ _ _) rfl ?_
        exact ⟨rfl, ext_alloc HE.out _⟩
      · have h20i : ¬ (20 : Int) < (xs.length : Int) := by omega
        go_wp2
        go_roundw
        case rel => exact ⟨j + 1, by omega, by go_num, ext_alloc HE.out _⟩
        case measure => simp [intOf]; omega
    · obtain rfl : j = L.length := by omega
      go_wp2_with fail
      refine (tree_any _ L wo (rdNd_ext HV.out HE.out) h60).mono ?_
      rintro e w2 ⟨rb, n, lo, H, t, a, b, s, rfl, hn, ht, hT, hX, hrl, hlH, hHz, hE2⟩
      have hn60 : n ≤ 100 := by
        rw [hn]
        unfold nodesOf
        split
        · simp
        · omega
      have hts : sizeT t ≤ 300 := trs_size _ t (List.mem_of_getElem? ht)
      have LT := Lib.hid (show Lst w2 rb n t 0 from ⟨lo, H, hHz, hT⟩)
      have VT := Lib.hid (TX_PV hX)
      obtain ⟨tk, tn, tA, tm, tc, rfl, rfl, rfl⟩ := TX_form hX
      have HE2 := Lib.hid (ext_trans HE.out hE2)
      have HTS := Lib.hid hts
      clear hn ht hT hX hrl hlH hHz hE2 hts
      go_wp2_with fail
      have hEa := ext_alloc (ext_refl w2) (.cells #[.int .i64 tk, .int .i64 tn, .slice tA tm tc] 30)
      have hba := heap_alloc_new w2 (.cells #[.int .i64 tk, .int .i64 tn, .slice tA tm tc] 30)
      refine (rcheck_any t rb n 0 _ (Nat.le_trans HTS.out (by decide)) hn60 (lst_ext LT.out hEa)).mono ?_
      rintro e w3 ⟨rfl, hE3⟩
      have HE3 := Lib.hid (ext_trans hEa hE3)
      have HB3 := Lib.hid ((ext_block hE3 (block_lt hba)).trans hba)
      have p0 : w3.cell? ⟨w2.heap.size, 0, none⟩ = some (.int .i64 tk) := block_cell HB3.out 0
      have p1 : w3.cell? ⟨w2.heap.size, 1, none⟩ = some (.int .i64 tn) := block_cell HB3.out 1
      have p2 : w3.cell? ⟨w2.heap.size, 2, none⟩ = some (.slice tA tm tc) := block_cell HB3.out 2
      have lb3 := block_lt HB3.out
      obtain ⟨cc, hcc⟩ : ∃ cc, cc = chk t := ⟨_, rfl⟩
      rw [← hcc]
      have HCC := Lib.hid hcc
      clear hEa hba hE3 hcc
      by_cases hz : cc = 0
      · subst hz
        have CY := Lib.hid (compile_yes t _ w3 (PV_ext VT.out HE3.out) HCC.out.symm)
        go_wp2_with fail
        refine CY.out.mono ?_
        rintro e w4 ⟨p, rfl, -, hE4⟩
        have q0 := (ext_cell hE4 _ _ lb3).trans p0
        have q1 := (ext_cell hE4 _ _ lb3).trans p1
        have q2 := (ext_cell hE4 _ _ lb3).trans p2
        have lb4 := ext_lt hE4 lb3
        have HE4 := Lib.hid hE4
        have CK := Lib.hid (check_any t _ w4 (Nat.le_trans HTS.out (by decide)) (PV_ext VT.out (ext_trans HE3.out hE4)))
        clear hE4 CY p0 p1 p2 lb3
        go_wp2_with fail
        refine CK.out.mono ?_
        rintro e w5 ⟨rfl, hE5⟩
        rw [← HCC.out]
        have HE5 := Lib.hid (ext_trans HE2.out (ext_trans HE3.out (ext_trans HE4.out hE5)))
        clear hE5 CK
        go_wp2
        refine bodyPost_ret (results_tmp rfl _ _ _) rfl ?_
        exact ⟨rfl, HE5.out⟩
      · have CN := Lib.hid (compile_no t _ w3 (Nat.le_trans HTS.out (by decide)) (PV_ext VT.out HE3.out) (fun e => hz (HCC.out.trans e)))
        unfold CompNo at CN
        rw [← HCC.out] at CN
        have hz2 : (cc == 0) = false := by rw [beq_eq_false_iff_ne]; exact hz
        go_wp2_with fail
        refine CN.out.mono ?_
        rintro e w4 ⟨rfl, hE4⟩
        have q0 := (ext_cell hE4 _ _ lb3).trans p0
        have q1 := (ext_cell hE4 _ _ lb3).trans p1
        have q2 := (ext_cell hE4 _ _ lb3).trans p2
        have lb4 := ext_lt hE4 lb3
        have HE4 := Lib.hid hE4
        have CK := Lib.hid (check_any t _ w4 (Nat.le_trans HTS.out (by decide)) (PV_ext VT.out (ext_trans HE3.out hE4)))
        clear hE4 CN p0 p1 p2 lb3
        go_wp2_with fail
        refine CK.out.mono ?_
        rintro e w5 ⟨rfl, hE5⟩
        rw [← HCC.out]
        have HE5 := Lib.hid (ext_trans HE2.out (ext_trans HE3.out (ext_trans HE4.out hE5)))
        clear hE5 CK
        go_wp2
        refine bodyPost_ret (results_tmp rfl _ _ _) rfl ?_
        exact ⟨rfl, HE5.out⟩
end Go.Proofs.Ytiabmdboacpmcaa
