/- slices.IndexFunc and ContainsFunc on paths; deep, size, form, Check. -/
import Derived.WalkKit
import Derived.Shelf.Abstract
import Derived.KernelRfl
import Derived.TacticsInMore
import Derived.Deep.DeepCutAuto
import Derived.Test.YtiabmdboacpmcaaPb
namespace Go.Proofs.Ytiabmdboacpmcaa
open Go Go.RowKit Go.Sort
set_option maxHeartbeats 800000

/-- what a callback answers of each path of a row -/
def CbOn (g : Nat) (lb : Array Value) (ps : List Tr) (p : Tr → Bool) (w : World) : Prop :=
  ∀ q ∈ ps, ∀ (v : Value) (w1 : World), Ext w w1 → PV w1 q v → Calls Try.prog g (#[v] ++ lb) w1 fun e w' => e = .returned (.bool (p q)) ∧ Ext w1 w'
def firstIx (p : Tr → Bool) : List Tr → Int
  | [] => -1
  | q :: r => if p q then 0 else if firstIx p r < 0 then -1 else firstIx p r + 1
theorem firstIx_lo (p : Tr → Bool) : ∀ ps, -1 ≤ firstIx p ps
  | [] => by simp [firstIx]
  | q :: r => by
    have := firstIx_lo p r
    rw [firstIx]
    split
    · omega
    · split <;> omega
theorem firstIx_any (p : Tr → Bool) : ∀ ps : List Tr, decide (0 ≤ firstIx p ps) = ps.any p
  | [] => by simp [firstIx]
  | q :: r => by
    have h := firstIx_any p r
    have := firstIx_lo p r
    rw [firstIx, List.any_cons]
    by_cases hq : p q = true
    · simp [hq]
    · rw [if_neg hq, ← h]
      simp only [Bool.not_eq_true] at hq
      rw [hq, Bool.false_or]
      split
      · simp; omega
      · simp; omega
theorem firstIx_hit (p : Tr → Bool) : ∀ (ps : List Tr) (i : Nat) (q : Tr), ps[i]? = some q → p q = true → (∀ (j : Nat) q', j < i → ps[j]? = some q' → p q' = false) → firstIx p ps = i
  | x :: r, 0, q, h, hq, _ => by
    simp only [List.getElem?_cons_zero, Option.some.injEq] at h
    subst h
    rw [firstIx, if_pos hq]; rfl
  | x :: r, i + 1, q, h, hq, hn => by
    have h0 := hn 0 x (by omega) rfl
    have := firstIx_hit p r i q (by simpa using h) hq (fun j q' hj hq' => hn (j + 1) q' (by omega) (by simpa using hq'))
    rw [firstIx, if_neg (by rw [h0]; simp), this, if_neg (by omega)]
    simp
theorem firstIx_miss (p : Tr → Bool) : ∀ (ps : List Tr), (∀ (j : Nat) q', ps[j]? = some q' → p q' = false) → firstIx p ps = -1
  | [], _ => rfl
  | x :: r, hn => by
    have h0 := hn 0 x rfl
    have := firstIx_miss p r (fun j q' hq' => hn (j + 1) q' (by simpa using hq'))
    rw [firstIx, if_neg (by rw [h0]; simp), this, if_pos (by omega)]

theorem next_no {p : Tr → Bool} {ps : List Tr} {j : Nat} {x : Tr} (h : ∀ (i : Nat) q, i < j → ps[i]? = some q → p q = false) (hx : ps[j]? = some x) (hp : p x = false) : ∀ (i : Nat) q, i < j + 1 → ps[i]? = some q → p q = false := fun i q hi hq => by
  rcases Nat.lt_or_ge i j with h1 | h1
  · exact h i q h1 hq
  · obtain rfl : i = j := by omega
    rw [hx] at hq
    cases hq
    exact hp
set_option maxRecDepth 100000 in
theorem indexFunc_any (g : Nat) (lb : Array Value) (eg : ∀ args w, (callFunc g args).run Try.prog w = .ok (.enter g args) w) (ps : List Tr) (p : Tr → Bool) (v : Value) (w : World) (hv : PS w ps v) (hcb : CbOn g lb ps p w) (hl : ps.length ≤ 1000000) :
    Calls Try.prog 92 #[v, .func (.func g) #[] lb] w fun e w' => e = .returned (.int .i64 (firstIx p ps)) ∧ Ext w w' := by
  obtain ⟨A, c, rfl⟩ := PS_form hv
  have HV := Lib.hid hv
  have HCB := Lib.hid hcb
  clear hv hcb
  go_enter Try.func92, Try.ntmps92
  go_wp2
  go_loopw [8] (fun x wr => ∃ j : Nat, j ≤ ps.length ∧ x = .int .i64 j ∧ (∀ (i : Nat) q, i < j → ps[i]? = some q → p q = false) ∧ Ext w wr) (fun x _ => ps.length - (intOf x).toNat)
  case atStart => exact ⟨0, Nat.zero_le _, rfl, fun i q h => absurd h (Nat.not_lt_zero _), ext_refl _⟩
  case round =>
    rename World => wo
    obtain ⟨j, hj, rfl, hno, hE⟩ := hrel
    have HE := Lib.hid hE
    have HNO := Lib.hid hno
    clear hE hno
    by_cases hlt : j < ps.length
    · have hji : (j : Int) < (ps.length : Int) := by omega
      have hj0 : (0 : Int) ≤ (j : Int) := by omega
      obtain ⟨q, hq⟩ : ∃ q, ps[j]? = some q := ⟨_, List.getElem?_eq_getElem hlt⟩
      have HQ := Lib.hid hq
      obtain ⟨b, o, rfl, hb, hpt⟩ := PS_at (PS_ext HV.out HE.out) hq
      clear hq
      cases q with
      | node k n qs =>
        obtain ⟨s, q0, q1, q2, hs, _⟩ := PT_val hpt
        have HPV := Lib.hid (show PV wo (.node k n qs) (.agg #[.int .i64 k, .int .i64 n, s]) from ⟨s, rfl, hs⟩)
        clear hpt hs
        have HC := Lib.hid (HCB.out _ (List.mem_of_getElem? HQ.out) _ wo HE.out HPV.out)
        by_cases hp : p (.node k n qs) = true
        · rw [hp] at HC
          have HP := Lib.hid hp
          clear hp
          go_wp2_with (go_at_fn g; refine HC.out.mono ?_; rintro e w1 ⟨rfl, hE1⟩; have HE1 := Lib.hid (ext_trans HE.out hE1); clear hE1)
          refine bodyPost_ret (results_tmp rfl _ _ _) rfl ?_
          exact ⟨by rw [firstIx_hit p ps j _ HQ.out HP.out HNO.out]; rfl, HE1.out⟩
        · have hpf : p (.node k n qs) = false := by simpa using hp
          rw [hpf] at HC
          have HP := Lib.hid hpf
          clear hp hpf
          go_wp2_with (go_at_fn g; refine HC.out.mono ?_; rintro e w1 ⟨rfl, hE1⟩; have HE1 := Lib.hid (ext_trans HE.out hE1); clear hE1)
          go_roundw
          case rel => exact ⟨j + 1, by omega, by go_num, next_no HNO.out HQ.out HP.out, HE1.out⟩
          case measure => simp [intOf]; omega
    · obtain rfl : j = ps.length := by omega
      go_wp2
      refine bodyPost_ret (results_tmp rfl _ _ _) rfl ?_
      exact ⟨by rw [firstIx_miss p ps (fun i q hq => HNO.out i q (List.getElem?_eq_some_iff.1 hq).1 hq)]; rfl, HE.out⟩
theorem containsFunc_any (g : Nat) (lb : Array Value) (eg : ∀ args w, (callFunc g args).run Try.prog w = .ok (.enter g args) w) (ps : List Tr) (p : Tr → Bool) (v : Value) (w : World) (hv : PS w ps v) (hcb : CbOn g lb ps p w) (hl : ps.length ≤ 1000000) :
    Calls Try.prog 66 #[v, .func (.func g) #[] lb] w fun e w' => e = .returned (.bool (ps.any p)) ∧ Ext w w' := by
  have c0 := Lib.hid (indexFunc_any g lb eg ps p v w hv hcb hl)
  have h0 := Lib.hid (firstIx_any p ps)
  obtain ⟨A, c, rfl⟩ := PS_form hv
  clear hv hcb eg
  go_enter Try.func66, Try.ntmps66
  go_wp2_with (go_at_call 92; refine c0.out.mono ?_; rintro e w1 ⟨rfl, hE1⟩; have HE1 := Lib.hid hE1; clear hE1)
  refine bodyPost_ret (results_tmp rfl _ _ _) rfl ?_
  exact ⟨by rw [← h0.out]; rfl, HE1.out⟩
end Go.Proofs.Ytiabmdboacpmcaa
