/- slices.IndexFunc and ContainsFunc on numbers, and on rows of these. -/
import Derived.Test.YtniggdaakiofeaaDoorSb
namespace Go.Proofs.YtniggdaakiofeaaDoor
open Go Go.RowKit Go.Sort
set_option maxHeartbeats 800000

theorem enter_fn {f : FuncId} {fn : Func} {c : Code} (hf : Tryd.prog.funcs[f]? = some fn) (hname : (fn.name == "runtime.NumGoroutine") = false) (hb : fn.body = some c) (args : Array Value) (w : World) : (callFunc f args).run Tryd.prog w = .ok (.enter f args) w := by
  have h1 : fn.name ≠ "runtime.NumGoroutine" := by simpa using hname
  simp [callFunc, hf, h1, hb]
def firstIx {α : Type} (p : α → Bool) : List α → Int
  | [] => -1
  | q :: r => if p q then 0 else if firstIx p r < 0 then -1 else firstIx p r + 1
theorem firstIx_lo {α : Type} (p : α → Bool) : ∀ ps, -1 ≤ firstIx p ps
  | [] => by simp [firstIx]
  | q :: r => by
    have := firstIx_lo p r
    rw [firstIx]
    split
    · omega
    · split <;> omega
theorem firstIx_any {α : Type} (p : α → Bool) : ∀ ps : List α, decide (0 ≤ firstIx p ps) = ps.any p
  | [] => by simp [firstIx]
  | q :: r => by
    have h := firstIx_any p r
    have := firstIx_lo p r
    rw [firstIx, List.any_cons]
    by_cases hq : p q = true
    · simp [hq]
    · rw [if_neg hq, ← h]
      simp only [Bool.not_eq_true] at hq
      rw [hq, Bool.false_or]
      split
      · simp; omega
      · simp; omega
theorem firstIx_hit {α : Type} (p : α → Bool) : ∀ (ps : List α) (i : Nat) (q : α), ps[i]? = some q → p q = true → (∀ (j : Nat) q', j < i → ps[j]? = some q' → p q' = false) → firstIx p ps = i
  | x :: r, 0, q, h, hq, _ => by
    simp only [List.getElem?_cons_zero, Option.some.injEq] at h
    subst h
    rw [firstIx, if_pos hq]; rfl
  | x :: r, i + 1, q, h, hq, hn => by
    have h0 := hn 0 x (by omega) rfl
    have := firstIx_hit p r i q (by simpa using h) hq (fun j q' hj hq' => hn (j + 1) q' (by omega) (by simpa using hq'))
    rw [firstIx, if_neg (by rw [h0]; simp), this, if_neg (by omega)]
    simp
theorem firstIx_miss {α : Type} (p : α → Bool) : ∀ (ps : List α), (∀ (j : Nat) q', ps[j]? = some q' → p q' = false) → firstIx p ps = -1
  | [], _ => rfl
  | x :: r, hn => by
    have h0 := hn 0 x rfl
    have := firstIx_miss p r (fun j q' hq' => hn (j + 1) q' (by simpa using hq'))
    rw [firstIx, if_neg (by rw [h0]; simp), this, if_pos (by omega)]
theorem next_no {α : Type} {p : α → Bool} {ps : List α} {j : Nat} {x : α} (h : ∀ (i : Nat) q, i < j → ps[i]? = some q → p q = false) (hx : ps[j]? = some x) (hp : p x = false) : ∀ (i : Nat) q, i < j + 1 → ps[i]? = some q → p q = false := fun i q hi hq => by
  rcases Nat.lt_or_ge i j with h1 | h1
  · exact h i q h1 hq
  · obtain rfl : i = j := by omega
    rw [hx] at hq
    cases hq
    exact hp
/-- what a callback answers of each number, of each row -/
def CbI (g : Nat) (lb : Array Value) (p : Int → Bool) (w : World) : Prop :=
  ∀ (n : Int) (w1 : World), Ext w w1 → Calls Tryd.prog g (#[.int .i64 n] ++ lb) w1 fun e w' => e = .returned (.bool (p n)) ∧ Ext w1 w'
def CbW (g : Nat) (lb : Array Value) (R : List (List Int)) (p : List Int → Bool) (w : World) : Prop :=
  ∀ x ∈ R, ∀ (v : Value) (w1 : World), Ext w w1 → RdI w1 v x → Calls Tryd.prog g (#[v] ++ lb) w1 fun e w' => e = .returned (.bool (p x)) ∧ Ext w1 w'
set_option maxRecDepth 100000 in
theorem indexI_any (g : Nat) (lb : Array Value) (eg : ∀ args w, (callFunc g args).run Tryd.prog w = .ok (.enter g args) w) (L : List Int) (p : Int → Bool) (v : Value) (w : World) (hv : RdI w v L) (hcb : CbI g lb p w) (hl : L.length ≤ 9223372036854775807) :
    Calls Tryd.prog 84 #[v, .func (.func g) #[] lb] w fun e w' => e = .returned (.int .i64 (firstIx p L)) ∧ Ext w w' := by
  obtain ⟨A, c, rfl⟩ := rdI_form hv
  have HV := Lib.hid hv
  have HCB := Lib.hid hcb
  clear hv hcb
  go_enter Tryd.func84, Tryd.ntmps84
  go_wp2
  go_loopw [8] (fun x wr => ∃ j : Nat, j ≤ L.length ∧ x = .int .i64 j ∧ (∀ (i : Nat) q, i < j → L[i]? = some q → p q = false) ∧ Ext w wr) (fun x _ => L.length - (intOf x).toNat)
  case atStart => exact ⟨0, Nat.zero_le _, rfl, fun i q h => absurd h (Nat.not_lt_zero _), ext_refl _⟩
  case round =>
    rename World => wo
    obtain ⟨j, hj, rfl, hno, hE⟩ := hrel
    have HE := Lib.hid hE
    have HNO := Lib.hid hno
    clear hE hno
    by_cases hlt : j < L.length
    · have hji : (j : Int) < (L.length : Int) := by omega
      have hj0 : (0 : Int) ≤ (j : Int) := by omega
      obtain ⟨q, hq⟩ : ∃ q, L[j]? = some q := ⟨_, List.getElem?_eq_getElem hlt⟩
      have HQ := Lib.hid hq
      obtain ⟨b, o, rfl, hb, hc⟩ := rdI_at (rdI_ext HV.out HE.out) hq
      clear hq
      have HC := Lib.hid (HCB.out q wo HE.out)
      by_cases hp : p q = true
      · rw [hp] at HC
        have HP := Lib.hid hp
        clear hp
        go_wp2_with (go_at_fn g; refine HC.out.mono ?_; rintro e w1 ⟨rfl, hE1⟩; have HE1 := Lib.hid (ext_trans HE.out hE1); clear hE1)
        refine bodyPost_ret (results_tmp rfl _ _ _) rfl ?_
        exact ⟨by rw [firstIx_hit p L j _ HQ.out HP.out HNO.out]; rfl, HE1.out⟩
      · have hpf : p q = false := by simpa using hp
        rw [hpf] at HC
        have HP := Lib.hid hpf
        clear hp hpf
        go_wp2_with (go_at_fn g; refine HC.out.mono ?_; rintro e w1 ⟨rfl, hE1⟩; have HE1 := Lib.hid (ext_trans HE.out hE1); clear hE1)
        go_roundw
        case rel => exact ⟨j + 1, by omega, by go_num, next_no HNO.out HQ.out HP.out, HE1.out⟩
        case measure => simp [intOf]; omega
    · obtain rfl : j = L.length := by omega
      go_wp2
      refine bodyPost_ret (results_tmp rfl _ _ _) rfl ?_
      exact ⟨by rw [firstIx_miss p L (fun i q hq => HNO.out i q (List.getElem?_eq_some_iff.1 hq).1 hq)]; rfl, HE.out⟩
theorem containsI_any (g : Nat) (lb : Array Value) (eg : ∀ args w, (callFunc g args).run Tryd.prog w = .ok (.enter g args) w) (L : List Int) (p : Int → Bool) (v : Value) (w : World) (hv : RdI w v L) (hcb : CbI g lb p w) (hl : L.length ≤ 9223372036854775807) :
    Calls Tryd.prog 72 #[v, .func (.func g) #[] lb] w fun e w' => e = .returned (.bool (L.any p)) ∧ Ext w w' := by
  have c0 := Lib.hid (indexI_any g lb eg L p v w hv hcb hl)
  have h0 := Lib.hid (firstIx_any p L)
  obtain ⟨A, c, rfl⟩ := rdI_form hv
  clear hv hcb eg
  go_enter Tryd.func72, Tryd.ntmps72
  go_wp2_with (go_at_call 84; refine c0.out.mono ?_; rintro e w1 ⟨rfl, hE1⟩; have HE1 := Lib.hid hE1; clear hE1)
  refine bodyPost_ret (results_tmp rfl _ _ _) rfl ?_
  exact ⟨by rw [← h0.out]; rfl, HE1.out⟩
set_option maxRecDepth 100000 in
theorem indexW_any (g : Nat) (lb : Array Value) (eg : ∀ args w, (callFunc g args).run Tryd.prog w = .ok (.enter g args) w) (R : List (List Int)) (p : List Int → Bool) (v : Value) (w : World) (hv : RdW w v R) (hcb : CbW g lb R p w) (hl : R.length ≤ 9223372036854775807) :
    Calls Tryd.prog 83 #[v, .func (.func g) #[] lb] w fun e w' => e = .returned (.int .i64 (firstIx p R)) ∧ Ext w w' := by
  obtain ⟨A, c, rfl⟩ := rdW_form hv
  have HV := Lib.hid hv
  have HCB := Lib.hid hcb
  clear hv hcb
  go_enter Tryd.func83, Tryd.ntmps83
  go_wp2
  go_loopw [8] (fun x wr => ∃ j : Nat, j ≤ R.length ∧ x = .int .i64 j ∧ (∀ (i : Nat) q, i < j → R[i]? = some q → p q = false) ∧ Ext w wr) (fun x _ => R.length - (intOf x).toNat)
  case atStart => exact ⟨0, Nat.zero_le _, rfl, fun i q h => absurd h (Nat.not_lt_zero _), ext_refl _⟩
  case round =>
    rename World => wo
    obtain ⟨j, hj, rfl, hno, hE⟩ := hrel
    have HE := Lib.hid hE
    have HNO := Lib.hid hno
    clear hE hno
    by_cases hlt : j < R.length
    · have hji : (j : Int) < (R.length : Int) := by omega
      have hj0 : (0 : Int) ≤ (j : Int) := by omega
      obtain ⟨q, hq⟩ : ∃ q, R[j]? = some q := ⟨_, List.getElem?_eq_getElem hlt⟩
      have HQ := Lib.hid hq
      obtain ⟨b, o, B, d, rfl, hb, hc, hr⟩ := rdW_at (rdW_ext HV.out HE.out) hq
      have HC := Lib.hid (HCB.out q (List.mem_of_getElem? hq) _ wo HE.out hr)
      clear hq hr
      by_cases hp : p q = true
      · rw [hp] at HC
        have HP := Lib.hid hp
        clear hp
        go_wp2_with (go_at_fn g; refine HC.out.mono ?_; rintro e w1 ⟨rfl, hE1⟩; have HE1 := Lib.hid (ext_trans HE.out hE1); clear hE1)
        refine bodyPost_ret (results_tmp rfl _ _ _) rfl ?_
        exact ⟨by rw [firstIx_hit p R j _ HQ.out HP.out HNO.out]; rfl, HE1.out⟩
      · have hpf : p q = false := by simpa using hp
        rw [hpf] at HC
        have HP := Lib.hid hpf
        clear hp hpf
        go_wp2_with (go_at_fn g; refine HC.out.mono ?_; rintro e w1 ⟨rfl, hE1⟩; have HE1 := Lib.hid (ext_trans HE.out hE1); clear hE1)
        go_roundw
        case rel => exact ⟨j + 1, by omega, by go_num, next_no HNO.out HQ.out HP.out, HE1.out⟩
        case measure => simp [intOf]; omega
    · obtain rfl : j = R.length := by omega
      go_wp2
      refine bodyPost_ret (results_tmp rfl _ _ _) rfl ?_
      exact ⟨by rw [firstIx_miss p R (fun i q hq => HNO.out i q (List.getElem?_eq_some_iff.1 hq).1 hq)]; rfl, HE.out⟩
theorem containsW_any (g : Nat) (lb : Array Value) (eg : ∀ args w, (callFunc g args).run Tryd.prog w = .ok (.enter g args) w) (R : List (List Int)) (p : List Int → Bool) (v : Value) (w : World) (hv : RdW w v R) (hcb : CbW g lb R p w) (hl : R.length ≤ 9223372036854775807) :
    Calls Tryd.prog 70 #[v, .func (.func g) #[] lb] w fun e w' => e = .returned (.bool (R.any p)) ∧ Ext w w' := by
  have c0 := Lib.hid (indexW_any g lb eg R p v w hv hcb hl)
  have h0 := Lib.hid (firstIx_any p R)
  obtain ⟨A, c, rfl⟩ := rdW_form hv
  clear hv hcb eg
  go_enter Tryd.func70, Tryd.ntmps70
  go_wp2_with (go_at_call 83; refine c0.out.mono ?_; rintro e w1 ⟨rfl, hE1⟩; have HE1 := Lib.hid hE1; clear hE1)
  refine bodyPost_ret (results_tmp rfl _ _ _) rfl ?_
  exact ⟨by rw [← h0.out]; rfl, HE1.out⟩
end Go.Proofs.YtniggdaakiofeaaDoor
