/- Empty. -/
import Derived.Test.YtiabmdboacpmcaaQe
namespace Go.Proofs.Ytiabmdboacpmcaa
open Go Go.RowKit Go.Sort
set_option maxHeartbeats 800000

theorem eg34 (args : Array Value) (w : World) : (callFunc 34 args).run Try.prog w = .ok (.enter 34 args) w := enter_fn Try.func34 (by kernel_rfl) rfl args w
theorem eg67 (args : Array Value) (w : World) : (callFunc 67 args).run Try.prog w = .ok (.enter 67 args) w := enter_fn Try.func67 (by kernel_rfl) rfl args w
theorem emptyA_any : ∀ ps : List Tr, (ps.any fun q => emptyT q) = emptyA ps
  | [] => by rw [emptyA]; rfl
  | p :: r => by rw [List.any_cons, emptyA_any r, emptyA]
theorem emptyS_any : ∀ ps : List Tr, (ps.any fun q => !emptyT q) = !emptyS ps
  | [] => by rw [emptyS]; rfl
  | p :: r => by rw [List.any_cons, emptyS_any r, emptyS, Bool.not_and]
def EmptyAt (N : Nat) : Prop := ∀ (t : Tr) (v : Value) (w : World), sizeT t ≤ N → PV w t v → Calls Try.prog 34 #[v] w fun e w' => e = .returned (.bool (emptyT t)) ∧ Ext w w'
theorem empty1_any {N : Nat} (hd : EmptyAt N) (t : Tr) (v : Value) (w : World) (hN : sizeT t ≤ N) (hv : PV w t v) :
    Calls Try.prog 67 #[v] w fun e w' => e = .returned (.bool (!emptyT t)) ∧ Ext w w' := by
  have HV := Lib.hid hv
  have c0 := Lib.hid hd
  cases t with
  | node k n ps =>
    obtain ⟨s, rfl, hs⟩ := hv
    clear hs hd
    go_enter Try.func67, Try.ntmps67
    go_wp2_with (go_at_call 34; refine (c0.out (.node k n ps) _ _ hN (PV_ext HV.out (ext_alloc (ext_refl _) _))).mono ?_; rintro e w1 ⟨rfl, hE1⟩; have HE1 := Lib.hid (ext_trans (ext_alloc (ext_refl _) _) hE1); clear hE1)
    refine bodyPost_ret (results_tmp rfl _ _ _) rfl ?_
    exact ⟨rfl, HE1.out⟩
theorem empty_partsA {N : Nat} (hd : EmptyAt N) (hN1 : N ≤ 100000) (ps : List Tr) (s : Value) (w w0 : World) (hN : sizeL ps ≤ N) (hs : PS w ps s) (hE : Ext w w0) : Calls Try.prog 66 #[s, .func (.func 34) #[] #[]] w0 fun e w' => e = .returned (.bool (emptyA ps)) ∧ Ext w w' := by
  have hlen := sizeL_len ps
  refine (containsFunc_any 34 _ eg34 ps (fun q => emptyT q) _ _ (PS_ext hs hE) (fun q hq v1 w1 hE1 hv1 => by simpa using hd q v1 w1 (Nat.le_trans (sizeL_mem hq) hN) hv1) (by omega)).mono ?_
  rintro e w1 ⟨rfl, hE1⟩
  exact ⟨by rw [emptyA_any], ext_trans hE hE1⟩
theorem empty_partsS {N : Nat} (hd : EmptyAt N) (hN1 : N ≤ 100000) (ps : List Tr) (s : Value) (w w0 : World) (hN : sizeL ps ≤ N) (hs : PS w ps s) (hE : Ext w w0) : Calls Try.prog 66 #[s, .func (.func 67) #[] #[]] w0 fun e w' => e = .returned (.bool (!emptyS ps)) ∧ Ext w w' := by
  have hlen := sizeL_len ps
  refine (containsFunc_any 67 _ eg67 ps (fun q => !emptyT q) _ _ (PS_ext hs hE) (fun q hq v1 w1 hE1 hv1 => by simpa using empty1_any hd q v1 w1 (Nat.le_trans (sizeL_mem hq) hN) hv1) (by omega)).mono ?_
  rintro e w1 ⟨rfl, hE1⟩
  exact ⟨by rw [emptyS_any], ext_trans hE hE1⟩
theorem empty_step {N : Nat} (hd : EmptyAt N) (hN1 : N ≤ 100000) : EmptyAt (N + 1) := by
  intro t v w hN hv
  cases t with
  | node k n ps =>
    rw [sizeT] at hN
    obtain ⟨s, rfl, hs⟩ := hv
    have hlen := sizeL_len ps
    have c0 := Lib.hid (fun w0 (hE : Ext w w0) => empty_partsA hd hN1 ps s w w0 (by omega) hs hE)
    have c1 := Lib.hid (fun w0 (hE : Ext w w0) => empty_partsS hd hN1 ps s w w0 (by omega) hs hE)
    obtain ⟨A, c, rfl⟩ := PS_form hs
    clear hd hs
    by_cases h46 : k = 4 ∨ k = 6
    · have hf : emptyT (.node k n ps) = true := by rw [emptyT, if_pos h46]
      rw [hf]
      clear hf
      rcases h46 with rfl | rfl
      all_goals
        go_enter Try.func34, Try.ntmps34
        go_wp2
        refine bodyPost_ret (results_tmp rfl _ _ _) rfl ?_
        exact ⟨rfl, ext_alloc (ext_refl _) _⟩
    by_cases h35 : k = 3 ∨ k = 5
    · have hf : emptyT (.node k n ps) = emptyA ps := by rw [emptyT, if_neg h46, if_pos h35]
      rw [hf]
      clear hf h46
      rcases h35 with rfl | rfl
      all_goals
        go_enter Try.func34, Try.ntmps34
        go_wp2_with (go_at_call 66; refine (c0.out _ (ext_alloc (ext_refl _) _)).mono ?_; rintro e w1 ⟨rfl, hE1⟩; have HE1 := Lib.hid hE1; clear hE1)
        refine bodyPost_ret (results_tmp rfl _ _ _) rfl ?_
        exact ⟨rfl, HE1.out⟩
    by_cases h2 : k = 2
    · have hf : emptyT (.node k n ps) = emptyS ps := by rw [emptyT, if_neg h46, if_neg h35, if_pos h2]
      rw [hf]
      clear hf h46 h35
      subst h2
      go_enter Try.func34, Try.ntmps34
      go_wp2_with (go_at_call 66; refine (c1.out _ (ext_alloc (ext_refl _) _)).mono ?_; rintro e w1 ⟨rfl, hE1⟩; have HE1 := Lib.hid hE1; clear hE1)
      refine bodyPost_ret (results_tmp rfl _ _ _) rfl ?_
      exact ⟨by simp, HE1.out⟩
    · have hf : emptyT (.node k n ps) = false := by rw [emptyT, if_neg h46, if_neg h35, if_neg h2]
      rw [hf]
      clear hf
      have n2 : (k == 2) = false := by rw [beq_eq_false_iff_ne]; exact h2
      have n3 : (k == 3) = false := by rw [beq_eq_false_iff_ne]; omega
      have n4 : (k == 4) = false := by rw [beq_eq_false_iff_ne]; omega
      have n5 : (k == 5) = false := by rw [beq_eq_false_iff_ne]; omega
      have n6 : (k == 6) = false := by rw [beq_eq_false_iff_ne]; omega
      clear h46 h35 h2
      go_enter Try.func34, Try.ntmps34
      go_wp2
      refine bodyPost_ret (results_tmp rfl _ _ _) rfl ?_
      exact ⟨rfl, ext_alloc (ext_refl _) _⟩
theorem empty_all : ∀ N : Nat, N ≤ 100000 → EmptyAt N
  | 0, _ => fun t v w hN => by have := sizeT_pos t; omega
  | N + 1, h => empty_step (empty_all N (by omega)) (by omega)
theorem empty_any (t : Tr) (v : Value) (w : World) (hN : sizeT t ≤ 100000) (hv : PV w t v) : Calls Try.prog 34 #[v] w fun e w' => e = .returned (.bool (emptyT t)) ∧ Ext w w' :=
  empty_all 100000 (Nat.le_refl _) t v w hN hv
end Go.Proofs.Ytiabmdboacpmcaa
