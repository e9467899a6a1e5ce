/- Texts joined: Qc. -/
import Derived.Test.YtiabmdboacpmcaaX20
/- word. -/
namespace Go.Proofs.Ytiabmdboacpmcaa
open Go Go.RowKit Go.Sort
set_option maxHeartbeats 1000000

def elZ : El Sy := ⟨fun a => [.int .i64 a.1, .bool a.2], 2, 110, by decide, fun _ => rfl, fun x u hu => by
  simp only [List.mem_cons, List.not_mem_nil, or_false] at hu; rcases hu with rfl | rfl <;> rfl⟩
noncomputable def tpZ : Tp Try.prog 46 elZ := ⟨(Try.prog.info? 110).get (by kernel_rfl), .agg #[.int .i64 0, .bool false], 16, Try.underlying46, by kernel_rfl, by kernel_rfl, by kernel_rfl, by kernel_rfl, rfl, by decide⟩
def WordPost (w : World) (e : Ending) (w' : World) : Prop := ∃ (U : List Sy) (va vb : Value), e = .returned (.tuple #[va, vb]) ∧ rowF elZ w.heap.size U va w' ∧ rowF elY w.heap.size U vb w' ∧ U.length ≤ 5 ∧ (∀ x ∈ U, 0 ≤ x.1 ∧ x.1 ≤ 3) ∧ Ext w w'
theorem word_any (v : Value) (B : List Nat) (w : World) (hv : RdB w v B) : Calls Try.prog 26 #[v] w (WordPost w) := by
  obtain ⟨A0, c0, rfl, hc0, hb0, hA⟩ := hv
  have HA := Lib.hid hA
  have HB0 := Lib.hid hb0
  clear hA hb0
  go_enter Try.func26, Try.ntmps26
  go_wp2
  go_loopw [10, 4, 5] (fun x y z wr => ∃ (j : Nat) (U : List Sy) (A : Option Addr) (c : Nat) (A' : Option Addr) (c' : Nat), j ≤ B.length ∧ j ≤ 5 ∧ U.length = j ∧ x = .int .i64 (j : Int) ∧ y = .slice A j c ∧ z = .slice A' j c' ∧ rowF elZ w.heap.size U (.slice A j c) wr ∧ rowF elY w.heap.size U (.slice A' j c') wr ∧ (∀ x ∈ U, 0 ≤ x.1 ∧ x.1 ≤ 3) ∧ Ext w wr) (fun x _ _ _ => B.length - (intOf x).toNat)
  case atStart => exact ⟨0, [], none, 0, none, 0, Nat.zero_le _, by omega, rfl, rfl, rfl, rfl, rowF_nil _ _, rowF_nil _ _, by simp, ext_refl _⟩
  case round =>
    rename World => wo
    obtain ⟨j, U, A, c, A', c', hj, hj5, hU, rfl, rfl, rfl, hr, hr', hx, hE⟩ := hrel
    have HU := Lib.hid hU
    have HR := Lib.hid hr
    have HR' := Lib.hid hr'
    have HX := Lib.hid hx
    have HE := Lib.hid hE
    clear hU hr hr' hx hE
    by_cases hlt : j < B.length
    · obtain ⟨y, hy⟩ : ∃ y, B[j]? = some y := ⟨_, List.getElem?_eq_getElem hlt⟩
      obtain ⟨b9, off9, hA9, hb9, hc9⟩ := HA.out (fun e => by rw [e] at hy; simp at hy)
      subst hA9
      have q0 := (ext_cell HE.out _ _ hb9).trans (hc9 j y hy)
      have l9 := ext_lt HE.out hb9
      have hy8 := HB0.out y (List.mem_of_getElem? hy)
      have hji : (j : Int) < (B.length : Int) := by omega
      have hj0 : (0 : Int) ≤ (j : Int) := by omega
      have hym : y % 4 < 4 := Nat.mod_lt _ (by decide)
      clear hc9 hy
      by_cases h5 : j = 5
      · subst h5
        go_wp2
        refine bodyPost_ret (results_tmp2 rfl _ _ _) rfl ?_
        exact ⟨U, _, _, rfl, HR.out, HR'.out, by rw [HU.out]; exact Nat.le_refl _, HX.out, HE.out⟩
      · have h5' : ((j : Int) == 5) = false := by rw [beq_eq_false_iff_ne]; omega
        go_wp2_with (at_builtin; refine halt_here ?_)
        refine go_on ?_
        obtain ⟨s, hs⟩ : ∃ s : Sy, s = ((y : Int) % 4, decide (0 < bits BinOp.and IntKind.u8 (y : Int) 64)) := ⟨_, rfl⟩
        have hs1 : (y : Int) % 4 = s.1 := by rw [hs]
        have hs2 : decide (0 < bits BinOp.and IntKind.u8 (y : Int) 64) = s.2 := by rw [hs]
        have hsr : 0 ≤ s.1 ∧ s.1 ≤ 3 := by rw [hs]; simp only; omega
        have HS1 := Lib.hid hs1
        have HS2 := Lib.hid hs2
        have hEa := ext_alloc (ext_refl wo) (.cells #[.int .i64 ((y : Int) % 4), .bool (decide (0 < bits BinOp.and IntKind.u8 (y : Int) 64))] 110)
        have hBa := heap_alloc_new wo (.cells #[.int .i64 ((y : Int) % 4), .bool (decide (0 < bits BinOp.and IntKind.u8 (y : Int) 64))] 110)
        obtain ⟨wa, hwa⟩ : ∃ wa, wa = wo.alloc (.cells #[.int .i64 ((y : Int) % 4), .bool (decide (0 < bits BinOp.and IntKind.u8 (y : Int) 64))] 110) := ⟨_, rfl⟩
        rw [← hwa] at hEa hBa ⊢
        have hUs : (U ++ [s]).length = j + 1 := by rw [List.length_append, HU.out]; rfl
        have HUS := Lib.hid hUs
        have HEA := Lib.hid hEa
        have HBA := Lib.hid hBa
        have q0a := (ext_cell hEa _ _ l9).trans q0
        have l9a := ext_lt hEa l9
        clear hwa hs hs1 hs2 hUs hEa hBa q0 l9
        refine wpList_append rfl (.tmp 17) (.tmp 25) rfl _ _ rfl rfl (fun v' w' => rowF elZ w.heap.size (U ++ [s]) v' w' ∧ wa.grownBy w' (Value.slice A j c).ownBlock) (append_onto tpZ _ w.heap.size (.slice A j c) _ U [s] _ (rowF_ext _ _ _ HEA.out HR.out) (srcOf_one (H := 0) ⟨wo.heap.size, rfl, Nat.zero_le _, by rw [HBA.out, HS1.out, HS2.out]; rfl⟩) (by rw [HU.out]; simp; omega) (Nat.le_trans (ext_size HE.out) (ext_size HEA.out))) ?_
        rintro v2 w2 ⟨hr2, hg2⟩
        obtain ⟨A2, c2, hv2⟩ := rowE_form hr2.1
        rw [HUS.out] at hv2
        subst hv2
        have HR2 := Lib.hid hr2
        have HRb := Lib.hid (rowF_upd (rowF_ext _ _ _ HEA.out HR'.out) (upd_grown hg2) (fun b hb e => el_apart (rowF_ext _ _ _ HEA.out HR'.out).1 (rowF_ext _ _ _ HEA.out HR.out).1 (by decide) hb e))
        have HE2 := Lib.hid (show Ext w w2 from ext_grown (ext_trans HE.out HEA.out) hg2 HR.out.2 (Nat.le_refl _))
        clear hr2 hg2 q0a l9a
        go_wp2_with (at_builtin; refine halt_here ?_)
        refine go_on ?_
        have hEb := ext_alloc (ext_refl w2) (.cells #[.int .i64 ((y : Int) % 4), .bool (decide (0 < bits BinOp.and IntKind.u8 (y : Int) 64))] 42)
        have hBb := heap_alloc_new w2 (.cells #[.int .i64 ((y : Int) % 4), .bool (decide (0 < bits BinOp.and IntKind.u8 (y : Int) 64))] 42)
        obtain ⟨wb, hwb⟩ : ∃ wb, wb = w2.alloc (.cells #[.int .i64 ((y : Int) % 4), .bool (decide (0 < bits BinOp.and IntKind.u8 (y : Int) 64))] 42) := ⟨_, rfl⟩
        rw [← hwb] at hEb hBb ⊢
        have HEB := Lib.hid hEb
        have HBB := Lib.hid hBb
        clear hwb hEb hBb
        refine wpList_append rfl (.tmp 27) (.tmp 35) rfl _ _ rfl rfl (fun v' w' => rowF elY w.heap.size (U ++ [s]) v' w' ∧ wb.grownBy w' (Value.slice A' j c').ownBlock) (append_onto tpY _ w.heap.size (.slice A' j c') _ U [s] _ (rowF_ext _ _ _ HEB.out HRb.out) (srcOf_one (H := 0) ⟨w2.heap.size, rfl, Nat.zero_le _, by rw [HBB.out, HS1.out, HS2.out]; rfl⟩) (by rw [HU.out]; simp; omega) (Nat.le_trans (ext_size HE2.out) (ext_size HEB.out))) ?_
        rintro v3 w3 ⟨hr3, hg3⟩
        obtain ⟨A3, c3, hv3⟩ := rowE_form hr3.1
        rw [HUS.out] at hv3
        subst hv3
        have HR3 := Lib.hid hr3
        have HRc := Lib.hid (rowF_upd (rowF_ext _ _ _ HEB.out HR2.out) (upd_grown hg3) (fun b hb e => el_apart (rowF_ext _ _ _ HEB.out HR2.out).1 (rowF_ext _ _ _ HEB.out HRb.out).1 (by decide) hb e))
        have HE3 := Lib.hid (show Ext w w3 from ext_grown (ext_trans HE2.out HEB.out) hg3 HRb.out.2 (Nat.le_refl _))
        clear hr3 hg3
        go_wp2
        go_roundw
        case rel => exact ⟨j + 1, U ++ [s], A2, c2, A3, c3, by omega, by omega, HUS.out, by go_num, rfl, rfl, HRc.out, HR3.out, fun x hx => by
          rcases List.mem_append.1 hx with h | h
          · exact HX.out x h
          · rw [List.mem_singleton.1 h]; exact hsr, HE3.out⟩
        case measure => simp [intOf]; omega
    · obtain rfl : j = B.length := by omega
      go_wp2
      refine bodyPost_ret (results_tmp2 rfl _ _ _) rfl ?_
      exact ⟨U, _, _, rfl, HR.out, HR'.out, by rw [HU.out]; exact hj5, HX.out, HE.out⟩
end Go.Proofs.Ytiabmdboacpmcaa
