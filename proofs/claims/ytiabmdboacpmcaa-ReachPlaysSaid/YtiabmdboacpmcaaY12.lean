/- Texts joined: Pc Pd Pe. -/
import Derived.WalkKit
import Derived.Shelf.Abstract
import Derived.KernelRfl
import Derived.TacticsInMore
import Derived.Deep.DeepCutAuto
import Derived.Test.YtiabmdboacpmcaaY08
/- slices.IndexFunc and ContainsFunc on paths; deep, size, form, Check. -/
namespace Go.Proofs.Ytiabmdboacpmcaa
open Go Go.RowKit Go.Sort
set_option maxHeartbeats 800000

/-- what a callback answers of each path of a row -/
def CbOn (g : Nat) (lb : Array Value) (ps : List Tr) (p : Tr → Bool) (w : World) : Prop :=
  ∀ q ∈ ps, ∀ (v : Value) (w1 : World), Ext w w1 → PV w1 q v → Calls Try.prog g (#[v] ++ lb) w1 fun e w' => e = .returned (.bool (p q)) ∧ Ext w1 w'
def firstIx (p : Tr → Bool) : List Tr → Int
  | [] => -1
  | q :: r => if p q then 0 else if firstIx p r < 0 then -1 else firstIx p r + 1
theorem firstIx_lo (p : Tr → Bool) : ∀ ps, -1 ≤ firstIx p ps
  | [] => by simp [firstIx]
  | q :: r => by
    have := firstIx_lo p r
    rw [firstIx]
    split
    · omega
    · split <;> omega
theorem firstIx_any (p : Tr → Bool) : ∀ ps : List Tr, decide (0 ≤ firstIx p ps) = ps.any p
  | [] => by simp [firstIx]
  | q :: r => by
    have h := firstIx_any p r
    have := firstIx_lo p r
    rw [firstIx, List.any_cons]
    by_cases hq : p q = true
    · simp [hq]
    · rw [if_neg hq, ← h]
      simp only [Bool.not_eq_true] at hq
      rw [hq, Bool.false_or]
      split
      · simp; omega
      · simp; omega
theorem firstIx_hit (p : Tr → Bool) : ∀ (ps : List Tr) (i : Nat) (q : Tr), ps[i]? = some q → p q = true → (∀ (j : Nat) q', j < i → ps[j]? = some q' → p q' = false) → firstIx p ps = i
  | x :: r, 0, q, h, hq, _ => by
    simp only [List.getElem?_cons_zero, Option.some.injEq] at h
    subst h
    rw [firstIx, if_pos hq]; rfl
  | x :: r, i + 1, q, h, hq, hn => by
    have h0 := hn 0 x (by omega) rfl
    have := firstIx_hit p r i q (by simpa using h) hq (fun j q' hj hq' => hn (j + 1) q' (by omega) (by simpa using hq'))
    rw [firstIx, if_neg (by rw [h0]; simp), this, if_neg (by omega)]
    simp
theorem firstIx_miss (p : Tr → Bool) : ∀ (ps : List Tr), (∀ (j : Nat) q', ps[j]? = some q' → p q' = false) → firstIx p ps = -1
  | [], _ => rfl
  | x :: r, hn => by
    have h0 := hn 0 x rfl
    have := firstIx_miss p r (fun j q' hq' => hn (j + 1) q' (by simpa using hq'))
    rw [firstIx, if_neg (by rw [h0]; simp), this, if_pos (by omega)]

theorem next_no {p : Tr → Bool} {ps : List Tr} {j : Nat} {x : Tr} (h : ∀ (i : Nat) q, i < j → ps[i]? = some q → p q = false) (hx : ps[j]? = some x) (hp : p x = false) : ∀ (i : Nat) q, i < j + 1 → ps[i]? = some q → p q = false := fun i q hi hq => by
  rcases Nat.lt_or_ge i j with h1 | h1
  · exact h i q h1 hq
  · obtain rfl : i = j := by omega
    rw [hx] at hq
    cases hq
    exact hp
set_option maxRecDepth 100000 in
theorem indexFunc_any (g : Nat) (lb : Array Value) (eg : ∀ args w, (callFunc g args).run Try.prog w = .ok (.enter g args) w) (ps : List Tr) (p : Tr → Bool) (v : Value) (w : World) (hv : PS w ps v) (hcb : CbOn g lb ps p w) (hl : ps.length ≤ 1000000) :
    Calls Try.prog 92 #[v, .func (.func g) #[] lb] w fun e w' => e = .returned (.int .i64 (firstIx p ps)) ∧ Ext w w' := by
  obtain ⟨A, c, rfl⟩ := PS_form hv
  have HV := Lib.hid hv
  have HCB := Lib.hid hcb
  clear hv hcb
  go_enter Try.func92, Try.ntmps92
  go_wp2
  go_loopw [8] (fun x wr => ∃ j : Nat, j ≤ ps.length ∧ x = .int .i64 j ∧ (∀ (i : Nat) q, i < j → ps[i]? = some q → p q = false) ∧ Ext w wr) (fun x _ => ps.length - (intOf x).toNat)
  case atStart => exact ⟨0, Nat.zero_le _, rfl, fun i q h => absurd h (Nat.not_lt_zero _), ext_refl _⟩
  case round =>
    rename World => wo
    obtain ⟨j, hj, rfl, hno, hE⟩ := hrel
    have HE := Lib.hid hE
    have HNO := Lib.hid hno
    clear hE hno
    by_cases hlt : j < ps.length
    · have hji : (j : Int) < (ps.length : Int) := by omega
      have hj0 : (0 : Int) ≤ (j : Int) := by omega
      obtain ⟨q, hq⟩ : ∃ q, ps[j]? = some q := ⟨_, List.getElem?_eq_getElem hlt⟩
      have HQ := Lib.hid hq
      obtain ⟨b, o, rfl, hb, hpt⟩ := PS_at (PS_ext HV.out HE.out) hq
      clear hq
      cases q with
      | node k n qs =>
        obtain ⟨s, q0, q1, q2, hs, _⟩ := PT_val hpt
        have HPV := Lib.hid (show PV wo (.node k n qs) (.agg #[.int .i64 k, .int .i64 n, s]) from ⟨s, rfl, hs⟩)
        clear hpt hs
        have HC := Lib.hid (HCB.out _ (List.mem_of_getElem? HQ.out) _ wo HE.out HPV.out)
        by_cases hp : p (.node k n qs) = true
        · rw [hp] at HC
          have HP := Lib.hid hp
          clear hp
          go_wp2_with (go_at_fn g; refine HC.out.mono ?_; rintro e w1 ⟨rfl, hE1⟩; have HE1 := Lib.hid (ext_trans HE.out hE1); clear hE1)
          refine bodyPost_ret (results_tmp rfl _ _ _) rfl ?_
          exact ⟨by rw [firstIx_hit p ps j _ HQ.out HP.out HNO.out]; rfl, HE1.out⟩
        · have hpf : p (.node k n qs) = false := by simpa using hp
          rw [hpf] at HC
          have HP := Lib.hid hpf
          clear hp hpf
          go_wp2_with (go_at_fn g; refine HC.out.mono ?_; rintro e w1 ⟨rfl, hE1⟩; have HE1 := Lib.hid (ext_trans HE.out hE1); clear hE1)
          go_roundw
          case rel => exact ⟨j + 1, by omega, by go_num, next_no HNO.out HQ.out HP.out, HE1.out⟩
          case measure => simp [intOf]; omega
    · obtain rfl : j = ps.length := by omega
      go_wp2
      refine bodyPost_ret (results_tmp rfl _ _ _) rfl ?_
      exact ⟨by rw [firstIx_miss p ps (fun i q hq => HNO.out i q (List.getElem?_eq_some_iff.1 hq).1 hq)]; rfl, HE.out⟩
theorem containsFunc_any (g : Nat) (lb : Array Value) (eg : ∀ args w, (callFunc g args).run Try.prog w = .ok (.enter g args) w) (ps : List Tr) (p : Tr → Bool) (v : Value) (w : World) (hv : PS w ps v) (hcb : CbOn g lb ps p w) (hl : ps.length ≤ 1000000) :
    Calls Try.prog 66 #[v, .func (.func g) #[] lb] w fun e w' => e = .returned (.bool (ps.any p)) ∧ Ext w w' := by
  have c0 := Lib.hid (indexFunc_any g lb eg ps p v w hv hcb hl)
  have h0 := Lib.hid (firstIx_any p ps)
  obtain ⟨A, c, rfl⟩ := PS_form hv
  clear hv hcb eg
  go_enter Try.func66, Try.ntmps66
  go_wp2_with (go_at_call 92; refine c0.out.mono ?_; rintro e w1 ⟨rfl, hE1⟩; have HE1 := Lib.hid hE1; clear hE1)
  refine bodyPost_ret (results_tmp rfl _ _ _) rfl ?_
  exact ⟨by rw [← h0.out]; rfl, HE1.out⟩
end Go.Proofs.Ytiabmdboacpmcaa
/- deep, size, form and Check of a path. -/
namespace Go.Proofs.Ytiabmdboacpmcaa
open Go Go.RowKit Go.Sort
set_option maxHeartbeats 800000

theorem enter_fn {f : FuncId} {fn : Func} {c : Code} (hf : Try.prog.funcs[f]? = some fn) (hname : (fn.name == "runtime.NumGoroutine") = false) (hb : fn.body = some c) (args : Array Value) (w : World) : (callFunc f args).run Try.prog w = .ok (.enter f args) w := by
  have h1 : fn.name ≠ "runtime.NumGoroutine" := by simpa using hname
  simp [callFunc, hf, h1, hb]
theorem eg88 (args : Array Value) (w : World) : (callFunc 88 args).run Try.prog w = .ok (.enter 88 args) w := enter_fn Try.func88 (by kernel_rfl) rfl args w
theorem eg89 (args : Array Value) (w : World) : (callFunc 89 args).run Try.prog w = .ok (.enter 89 args) w := enter_fn Try.func89 (by kernel_rfl) rfl args w

theorem sizeT_pos (t : Tr) : 1 ≤ sizeT t := by cases t; rw [sizeT]; omega
theorem sizeL_mem : ∀ {ps : List Tr} {q : Tr}, q ∈ ps → sizeT q ≤ sizeL ps
  | p :: r, q, h => by
    rw [sizeL]
    rcases List.mem_cons.1 h with rfl | h
    · omega
    · have := sizeL_mem h; omega
theorem sizeL_len : ∀ (ps : List Tr), ps.length ≤ sizeL ps
  | [] => by simp [sizeL]
  | p :: r => by
    have := sizeL_len r
    have := sizeT_pos p
    rw [sizeL, List.length_cons]; omega
theorem deepL_any (l : Int) : ∀ ps : List Tr, (ps.any fun q => !deepB q l) = !deepL ps l
  | [] => by rw [deepL]; rfl
  | p :: r => by rw [List.any_cons, deepL_any l r, deepL, Bool.not_and]
theorem formL_any : ∀ ps : List Tr, (ps.any fun q => !formB q) = !formL ps
  | [] => by rw [formL]; rfl
  | p :: r => by rw [List.any_cons, formL_any r, formL, Bool.not_and]

def DeepAt (N : Nat) : Prop := ∀ (t : Tr) (l : Int) (v : Value) (w : World), sizeT t ≤ N → PV w t v → l ≤ 1000 → -1000 ≤ l → Calls Try.prog 60 #[v, .int .i64 l] w fun e w' => e = .returned (.bool (deepB t l)) ∧ Ext w w'
theorem deep1_any {N : Nat} (hd : DeepAt N) (t : Tr) (l : Int) (v : Value) (w : World) (bl : Nat) (hN : sizeT t ≤ N) (hv : PV w t v) (hl : l ≤ 1000) (hl0 : 0 < l) (hb : w.heap[bl]? = some (.cells #[.int .i64 l] 3 (0, 0))) :
    Calls Try.prog 88 #[v, .pointer (some ⟨bl, 0, none⟩)] w fun e w' => e = .returned (.bool (!deepB t (l - 1))) ∧ Ext w w' := by
  have HV := Lib.hid hv
  have c0 := Lib.hid hd
  have HB := Lib.hid hb
  cases t with
  | node k n ps =>
    obtain ⟨s, rfl, hs⟩ := hv
    have q0 : w.cell? ⟨bl, 0, none⟩ = some (.int .i64 l) := block_cell hb 0
    have lb := block_lt hb
    clear hs hd hb
    go_enter Try.func88, Try.ntmps88
    go_wp2_with (go_at_call 60; refine (c0.out (.node k n ps) (l - 1) _ _ hN (PV_ext HV.out (ext_alloc (ext_refl _) _)) (by omega) (by omega)).mono ?_; rintro e w1 ⟨rfl, hE1⟩; have HE1 := Lib.hid (ext_trans (ext_alloc (ext_refl _) _) hE1); clear hE1)
    refine bodyPost_ret (results_tmp rfl _ _ _) rfl ?_
    exact ⟨rfl, HE1.out⟩
theorem heap_two (w : World) (o0 o1 : Obj) : ((w.alloc o0).alloc o1).heap[w.heap.size]? = some o0 ∧ ((w.alloc o0).alloc o1).heap[w.heap.size + 1]? = some o1 := by
  have h1 := heap_alloc_new (w.alloc o0) o1
  rw [World.size_alloc] at h1
  exact ⟨(Below.heap_alloc _ _ _ (by simp)).trans (heap_alloc_new w o0), h1⟩
theorem ext_two (w : World) (o0 o1 : Obj) : Ext w ((w.alloc o0).alloc o1) := ext_alloc (ext_alloc (ext_refl _) _) _
theorem deep_step {N : Nat} (hd : DeepAt N) (hN1 : N ≤ 100000) : DeepAt (N + 1) := by
  intro t l v w hN hv hl hl0
  by_cases hpos : 0 < l
  · cases t with
    | node k n ps =>
      rw [sizeT] at hN
      have HV := Lib.hid hv
      have HD := Lib.hid hd
      obtain ⟨s, rfl, hs⟩ := hv
      have HS := Lib.hid hs
      clear hs hd
      obtain ⟨A, c, rfl⟩ := PS_form HS.out
      have hlen := sizeL_len ps
      have hany := deepL_any (l - 1) ps
      have HANY := Lib.hid hany
      clear hany
      have hdt : deepB (.node k n ps) l = deepL ps (l - 1) := by rw [deepB, decide_eq_true hpos, Bool.true_and]
      rw [hdt]
      clear hdt
      go_enter Try.func60, Try.ntmps60
      go_wp2_with fail
      have hE0 := ext_two w (.cells #[.int .i64 k, .int .i64 n, .slice A ps.length c] 30) (.cells #[.int .i64 l] 3)
      have hb := (heap_two w (.cells #[.int .i64 k, .int .i64 n, .slice A ps.length c] 30) (.cells #[.int .i64 l] 3)).2
      have hcb : CbOn 88 #[.pointer (some ⟨w.heap.size + 1, 0, none⟩)] ps (fun q => !deepB q (l - 1)) ((w.alloc (.cells #[.int .i64 k, .int .i64 n, .slice A ps.length c] 30)).alloc (.cells #[.int .i64 l] 3)) := fun q hq v1 w1 hE1 hv1 => deep1_any HD.out q l v1 w1 _ (Nat.le_trans (sizeL_mem hq) (by omega)) hv1 hl hpos ((ext_block hE1 (block_lt hb)).trans hb)
      refine (containsFunc_any 88 _ eg88 ps (fun q => !deepB q (l - 1)) _ _ (PS_ext HS.out hE0) hcb (by omega)).mono ?_
      rintro e w1 ⟨rfl, hE1⟩
      rw [HANY.out]
      have HE1 := Lib.hid (ext_trans hE0 hE1)
      clear hE1 hE0 hb
      go_wp2
      refine bodyPost_ret (results_tmp rfl _ _ _) rfl ?_
      exact ⟨by simp, HE1.out⟩
  · have hd0 : deepB t l = false := by cases t; rw [deepB, decide_eq_false hpos]; rfl
    rw [hd0]
    cases t with
    | node k n ps =>
      obtain ⟨s, rfl, hs⟩ := hv
      clear hs hd hd0
      go_enter Try.func60, Try.ntmps60
      go_wp2
      refine bodyPost_ret (results_tmp rfl _ _ _) rfl ?_
      exact ⟨rfl, ext_two _ _ _⟩
theorem deep_all : ∀ N : Nat, N ≤ 100000 → DeepAt N
  | 0, _ => fun t l v w hN => by have := sizeT_pos t; omega
  | N + 1, h => deep_step (deep_all N (by omega)) (by omega)
theorem deep_any (t : Tr) (l : Int) (v : Value) (w : World) (hN : sizeT t ≤ 100000) (hv : PV w t v) (hl : l ≤ 1000) (hl0 : -1000 ≤ l) : Calls Try.prog 60 #[v, .int .i64 l] w fun e w' => e = .returned (.bool (deepB t l)) ∧ Ext w w' :=
  deep_all 100000 (Nat.le_refl _) t l v w hN hv hl hl0

/- form -/
def FormAt (N : Nat) : Prop := ∀ (t : Tr) (v : Value) (w : World), sizeT t ≤ N → PV w t v → Calls Try.prog 62 #[v] w fun e w' => e = .returned (.bool (formB t)) ∧ Ext w w'
theorem form1_any {N : Nat} (hd : FormAt N) (t : Tr) (v : Value) (w : World) (hN : sizeT t ≤ N) (hv : PV w t v) :
    Calls Try.prog 89 #[v] w fun e w' => e = .returned (.bool (!formB t)) ∧ Ext w w' := by
  have HV := Lib.hid hv
  have c0 := Lib.hid hd
  cases t with
  | node k n ps =>
    obtain ⟨s, rfl, hs⟩ := hv
    clear hs hd
    go_enter Try.func89, Try.ntmps89
    go_wp2_with (go_at_call 62; refine (c0.out (.node k n ps) _ _ hN (PV_ext HV.out (ext_alloc (ext_refl _) _))).mono ?_; rintro e w1 ⟨rfl, hE1⟩; have HE1 := Lib.hid (ext_trans (ext_alloc (ext_refl _) _) hE1); clear hE1)
    refine bodyPost_ret (results_tmp rfl _ _ _) rfl ?_
    exact ⟨rfl, HE1.out⟩
theorem form_parts {N : Nat} (hd : FormAt N) (hN1 : N ≤ 100000) (ps : List Tr) (s : Value) (w w0 : World) (hN : sizeL ps ≤ N) (hs : PS w ps s) (hE : Ext w w0) : Calls Try.prog 66 #[s, .func (.func 89) #[] #[]] w0 fun e w' => e = .returned (.bool (!formL ps)) ∧ Ext w w' := by
  have hlen := sizeL_len ps
  refine (containsFunc_any 89 _ eg89 ps (fun q => !formB q) _ _ (PS_ext hs hE) (fun q hq v1 w1 hE1 hv1 => by simpa using form1_any hd q v1 w1 (Nat.le_trans (sizeL_mem hq) hN) hv1) (by omega)).mono ?_
  rintro e w1 ⟨rfl, hE1⟩
  exact ⟨by rw [formL_any], ext_trans hE hE1⟩
theorem form_step {N : Nat} (hd : FormAt N) (hN1 : N ≤ 100000) : FormAt (N + 1) := by
  intro t v w hN hv
  cases t with
  | node k n ps =>
    rw [sizeT] at hN
    obtain ⟨s, rfl, hs⟩ := hv
    have hlen := sizeL_len ps
    have c0 := Lib.hid (fun w0 (hE : Ext w w0) => form_parts hd hN1 ps s w w0 (by omega) hs hE)
    obtain ⟨A, c, rfl⟩ := PS_form hs
    clear hd hs
    by_cases h01 : k = 0 ∨ k = 1
    · have hf : formB (.node k n ps) = (decide (ps = []) && decide (0 ≤ n)) := by rw [formB, if_pos h01]
      rw [hf]
      clear hf
      by_cases hps : ps = []
      · subst hps
        by_cases hn : 0 ≤ n
        · rw [decide_eq_true hn]
          rcases h01 with rfl | rfl
          all_goals
            go_enter Try.func62, Try.ntmps62
            go_wp2
            refine bodyPost_ret (results_tmp rfl _ _ _) rfl ?_
            exact ⟨rfl, ext_alloc (ext_refl _) _⟩
        · rw [decide_eq_false hn]
          rcases h01 with rfl | rfl
          all_goals
            go_enter Try.func62, Try.ntmps62
            go_wp2
            refine bodyPost_ret (results_tmp rfl _ _ _) rfl ?_
            exact ⟨rfl, ext_alloc (ext_refl _) _⟩
      · rw [decide_eq_false hps, Bool.false_and]
        have hl0 : ((ps.length : Int) == 0) = false := by
          have : 0 < ps.length := List.length_pos_iff.2 hps
          rw [beq_eq_false_iff_ne]; omega
        have H := Lib.hid hps
        clear hps
        rcases h01 with rfl | rfl
        all_goals
          go_enter Try.func62, Try.ntmps62
          go_wp2
          refine bodyPost_ret (results_tmp rfl _ _ _) rfl ?_
          exact ⟨rfl, ext_alloc (ext_refl _) _⟩
    by_cases h23 : k = 2 ∨ k = 3
    · have hf : formB (.node k n ps) = (!decide (ps = []) && formL ps) := by rw [formB, if_neg h01, if_pos h23]
      rw [hf]
      clear hf h01
      by_cases hps : ps = []
      · subst hps
        rcases h23 with rfl | rfl
        all_goals
          go_enter Try.func62, Try.ntmps62
          go_wp2
          refine bodyPost_ret (results_tmp rfl _ _ _) rfl ?_
          exact ⟨rfl, ext_alloc (ext_refl _) _⟩
      · rw [decide_eq_false hps]
        have hl0 : ((ps.length : Int) == 0) = false := by
          have : 0 < ps.length := List.length_pos_iff.2 hps
          rw [beq_eq_false_iff_ne]; omega
        have H := Lib.hid hps
        clear hps
        rcases h23 with rfl | rfl
        all_goals
          go_enter Try.func62, Try.ntmps62
          go_wp2_with (go_at_call 66; refine (c0.out _ (ext_alloc (ext_refl _) _)).mono ?_; rintro e w1 ⟨rfl, hE1⟩; have HE1 := Lib.hid hE1; clear hE1)
          refine bodyPost_ret (results_tmp rfl _ _ _) rfl ?_
          exact ⟨by simp, HE1.out⟩
    by_cases h456 : k = 4 ∨ k = 5 ∨ k = 6
    · have hf : formB (.node k n ps) = (decide (ps.length = 1) && formL ps) := by rw [formB, if_neg h01, if_neg h23, if_pos h456]
      rw [hf]
      clear hf h01 h23
      by_cases hps : ps.length = 1
      · have hl1 : ((ps.length : Int) != 1) = false := by rw [hps]; rfl
        rw [decide_eq_true hps]
        have H := Lib.hid hps
        clear hps
        rcases h456 with rfl | rfl | rfl
        all_goals
          go_enter Try.func62, Try.ntmps62
          go_wp2_with (go_at_call 66; refine (c0.out _ (ext_alloc (ext_refl _) _)).mono ?_; rintro e w1 ⟨rfl, hE1⟩; have HE1 := Lib.hid hE1; clear hE1)
          refine bodyPost_ret (results_tmp rfl _ _ _) rfl ?_
          exact ⟨by simp, HE1.out⟩
      · have hl1 : ((ps.length : Int) != 1) = true := by rw [bne_iff_ne]; omega
        rw [decide_eq_false hps]
        have H := Lib.hid hps
        clear hps
        rcases h456 with rfl | rfl | rfl
        all_goals
          go_enter Try.func62, Try.ntmps62
          go_wp2
          refine bodyPost_ret (results_tmp rfl _ _ _) rfl ?_
          exact ⟨rfl, ext_alloc (ext_refl _) _⟩
    · have hf : formB (.node k n ps) = false := by rw [formB, if_neg h01, if_neg h23, if_neg h456]
      rw [hf]
      have e0 : (k == 0) = false := by rw [beq_eq_false_iff_ne]; omega
      have e1 : (k == 1) = false := by rw [beq_eq_false_iff_ne]; omega
      have e2 : (k == 2) = false := by rw [beq_eq_false_iff_ne]; omega
      have e3 : (k == 3) = false := by rw [beq_eq_false_iff_ne]; omega
      have e4 : (k == 4) = false := by rw [beq_eq_false_iff_ne]; omega
      have e5 : (k == 5) = false := by rw [beq_eq_false_iff_ne]; omega
      have e6 : (k == 6) = false := by rw [beq_eq_false_iff_ne]; omega
      clear hf h01 h23 h456
      go_enter Try.func62, Try.ntmps62
      go_wp2
      refine bodyPost_ret (results_tmp rfl _ _ _) rfl ?_
      exact ⟨rfl, ext_alloc (ext_refl _) _⟩
theorem form_all : ∀ N : Nat, N ≤ 100000 → FormAt N
  | 0, _ => fun t v w hN => by have := sizeT_pos t; omega
  | N + 1, h => form_step (form_all N (by omega)) (by omega)
theorem form_any (t : Tr) (v : Value) (w : World) (hN : sizeT t ≤ 100000) (hv : PV w t v) : Calls Try.prog 62 #[v] w fun e w' => e = .returned (.bool (formB t)) ∧ Ext w w' :=
  form_all 100000 (Nat.le_refl _) t v w hN hv
end Go.Proofs.Ytiabmdboacpmcaa
/- size and Check of a path. -/
namespace Go.Proofs.Ytiabmdboacpmcaa
open Go Go.RowKit Go.Sort
set_option maxHeartbeats 800000

theorem sizeL_take {ps : List Tr} {j : Nat} {q : Tr} (h : ps[j]? = some q) : sizeL (ps.take (j + 1)) = sizeL (ps.take j) + sizeT q := by
  induction ps generalizing j with
  | nil => simp at h
  | cons p r ih =>
    cases j with
    | zero =>
      simp only [List.getElem?_cons_zero, Option.some.injEq] at h
      subst h
      simp [sizeL]
    | succ j =>
      have := ih (j := j) (by simpa using h)
      rw [List.take_succ_cons, sizeL, this, List.take_succ_cons, sizeL]
      omega
theorem sizeL_le_take (ps : List Tr) (j : Nat) : sizeL (ps.take j) ≤ sizeL ps := by
  induction ps generalizing j with
  | nil => simp [sizeL]
  | cons p r ih =>
    cases j with
    | zero => simp [sizeL]
    | succ j =>
      have := ih j
      rw [List.take_succ_cons, sizeL, sizeL]
      omega
def SizeAt (N : Nat) : Prop := ∀ (t : Tr) (v : Value) (w : World), sizeT t ≤ N → PV w t v → Calls Try.prog 61 #[v] w fun e w' => e = .returned (.int .i64 (sizeT t)) ∧ Ext w w'
theorem size_step {N : Nat} (hd : SizeAt N) (hN1 : N ≤ 100000) : SizeAt (N + 1) := by
  intro t v w hN hv
  cases t with
  | node k n ps =>
    rw [sizeT] at hN ⊢
    obtain ⟨s, rfl, hs⟩ := hv
    have hlen := sizeL_len ps
    have HD := Lib.hid hd
    have HS := Lib.hid hs
    obtain ⟨A, c, rfl⟩ := PS_form hs
    clear hd hs
    go_enter Try.func61, Try.ntmps61
    go_wp2
    go_loopw [9, 3] (fun x y wr => ∃ j : Nat, j ≤ ps.length ∧ x = .int .i64 j ∧ y = .int .i64 ((1 + sizeL (ps.take j) : Nat) : Int) ∧ Ext w wr) (fun x _ _ => ps.length - (intOf x).toNat)
    case atStart => exact ⟨0, Nat.zero_le _, rfl, by simp [sizeL], ext_alloc (ext_refl _) _⟩
    case round =>
      rename World => wo
      obtain ⟨j, hj, rfl, rfl, hE⟩ := hrel
      have HE := Lib.hid hE
      clear hE
      by_cases hlt : j < ps.length
      · have hji : (j : Int) < (ps.length : Int) := by omega
        have hj0 : (0 : Int) ≤ (j : Int) := by omega
        obtain ⟨q, hq⟩ : ∃ q, ps[j]? = some q := ⟨_, List.getElem?_eq_getElem hlt⟩
        have HQ := Lib.hid hq
        have hst := sizeL_take hq
        have hle := sizeL_le_take ps (j + 1)
        have HST := Lib.hid hst
        obtain ⟨m, hm⟩ : ∃ m, m = 1 + sizeL (ps.take j) := ⟨_, rfl⟩
        have hm1 : m + sizeT q ≤ N + 1 := by omega
        have hm0 : 1 ≤ m := by omega
        rw [← hm]
        have HM := Lib.hid hm
        obtain ⟨b, o, rfl, hb, hpt⟩ := PS_at (PS_ext HS.out HE.out) hq
        clear hq hst hm hle
        cases q with
        | node k' n' qs =>
          obtain ⟨s, q0, q1, q2, hs, _⟩ := PT_val hpt
          obtain ⟨A1, c1, rfl⟩ := PS_form hs
          have HPV := Lib.hid (show PV wo (.node k' n' qs) (.agg #[.int .i64 k', .int .i64 n', .slice A1 qs.length c1]) from ⟨_, rfl, hs⟩)
          clear hpt hs
          go_wp2_with fail
          refine (HD.out (.node k' n' qs) _ _ (by omega) (PV_ext HPV.out (ext_alloc (ext_refl _) _))).mono ?_
          rintro e w1 ⟨rfl, hE1⟩
          have HE1 := Lib.hid (ext_trans HE.out (ext_trans (ext_alloc (ext_refl _) _) hE1))
          clear hE1
          go_wp2
          go_roundw
          case rel => exact ⟨j + 1, by omega, by go_num, by rw [HST.out, HM.out]; congr 1; push_cast; omega, HE1.out⟩
          case measure => simp [intOf]; omega
      · obtain rfl : j = ps.length := by omega
        rw [List.take_length]
        go_wp2
        refine bodyPost_ret (results_tmp rfl _ _ _) rfl ?_
        exact ⟨rfl, HE.out⟩
theorem size_all : ∀ N : Nat, N ≤ 100000 → SizeAt N
  | 0, _ => fun t v w hN => by have := sizeT_pos t; omega
  | N + 1, h => size_step (size_all N (by omega)) (by omega)
theorem size_any (t : Tr) (v : Value) (w : World) (hN : sizeT t ≤ 100000) (hv : PV w t v) : Calls Try.prog 61 #[v] w fun e w' => e = .returned (.int .i64 (sizeT t)) ∧ Ext w w' :=
  size_all 100000 (Nat.le_refl _) t v w hN hv

theorem check_any (t : Tr) (v : Value) (w : World) (hN : sizeT t ≤ 100000) (hv : PV w t v) : Calls Try.prog 23 #[v] w fun e w' => e = .returned (.int .i64 (chk t)) ∧ Ext w w' := by
  have HV := Lib.hid hv
  have HN := Lib.hid hN
  obtain ⟨s', hs'⟩ : ∃ z, z = sizeT t := ⟨_, rfl⟩
  have hs1 : s' ≤ 100000 := by omega
  have hsz := Lib.hid (fun w0 (hE : Ext w w0) => size_any t v w0 hN (PV_ext hv hE))
  rw [← hs'] at hsz
  have HS := Lib.hid hs'
  clear hs'
  cases t with
  | node k n ps =>
    obtain ⟨s, rfl, hs⟩ := hv
    obtain ⟨A, c, rfl⟩ := PS_form hs
    clear hs hN
    obtain ⟨t, ht⟩ : ∃ t, t = Tr.node k n ps := ⟨_, rfl⟩
    rw [← ht] at HV HN HS ⊢
    clear ht
    have hE0 := Lib.hid (show Ext w (w.alloc (.cells #[.int .i64 k, .int .i64 n, .slice A ps.length c] 30)) from ext_alloc (ext_refl _) _)
    have hB := Lib.hid (fun (w1 : World) (hE : Ext (w.alloc (.cells #[.int .i64 k, .int .i64 n, .slice A ps.length c] 30)) w1) => (ext_block hE (block_lt (heap_alloc_new w (.cells #[.int .i64 k, .int .i64 n, .slice A ps.length c] 30)))).trans (heap_alloc_new w (.cells #[.int .i64 k, .int .i64 n, .slice A ps.length c] 30)))
    have HCHK := Lib.hid (show chk t = if deepB t 40 then if 200 < sizeT t then 13 else if formB t then 0 else 1 else 15 from rfl)
    rw [← HS.out] at HCHK
    cases hd : deepB t 40 with
    | false =>
      have hc : chk t = 15 := by rw [HCHK.out, hd]; rfl
      have HD := Lib.hid hd
      rw [hc]
      clear hd hc
      go_enter Try.func23, Try.ntmps23
      go_wp2_with (go_at_call 60; refine (deep_any t 40 _ _ HN.out (PV_ext HV.out hE0.out) (by omega) (by omega)).mono ?_; rintro e w1 ⟨rfl, hE1⟩; rw [HD.out]; have HE1 := Lib.hid (ext_trans hE0.out hE1); clear hE1)
      refine bodyPost_ret (results_tmp rfl _ _ _) rfl ?_
      exact ⟨rfl, HE1.out⟩
    | true =>
      have HD := Lib.hid hd
      by_cases h200 : 200 < s'
      · have hc : chk t = 13 := by rw [HCHK.out, hd, if_pos rfl, if_pos h200]
        have h2 : (200 : Int) < (s' : Int) := by omega
        rw [hc]
        clear hd hc
        go_enter Try.func23, Try.ntmps23
        go_wp2_with fail
        refine (deep_any t 40 _ _ HN.out (PV_ext HV.out hE0.out) (by omega) (by omega)).mono ?_
        rintro e w1 ⟨rfl, hE1⟩
        rw [HD.out]
        have HE1 := Lib.hid hE1
        have q0 := block_cell (hB.out w1 hE1) 0
        have q1 := block_cell (hB.out w1 hE1) 1
        have q2 := block_cell (hB.out w1 hE1) 2
        have lb := block_lt (hB.out w1 hE1)
        simp at q0 q1 q2
        clear hE1
        go_wp2_with (go_at_call 61; refine (hsz.out _ (ext_trans hE0.out HE1.out)).mono ?_; rintro e w2 ⟨rfl, hE2⟩; have HE2 := Lib.hid (ext_trans (ext_trans hE0.out HE1.out) hE2); clear hE2)
        refine bodyPost_ret (results_tmp rfl _ _ _) rfl ?_
        exact ⟨rfl, HE2.out⟩
      · have hnl : ¬ (200 : Int) < (s' : Int) := by omega
        cases hf : formB t with
        | true =>
          have hc : chk t = 0 := by rw [HCHK.out, hd, if_pos rfl, if_neg h200, hf]; rfl
          have HF := Lib.hid hf
          rw [hc]
          clear hd hc hf
          go_enter Try.func23, Try.ntmps23
          go_wp2_with fail
          refine (deep_any t 40 _ _ HN.out (PV_ext HV.out hE0.out) (by omega) (by omega)).mono ?_
          rintro e w1 ⟨rfl, hE1⟩
          rw [HD.out]
          have HE1 := Lib.hid hE1
          have q0 := block_cell (hB.out w1 hE1) 0
          have q1 := block_cell (hB.out w1 hE1) 1
          have q2 := block_cell (hB.out w1 hE1) 2
          have lb := block_lt (hB.out w1 hE1)
          simp at q0 q1 q2
          clear hE1
          go_wp2_with fail
          refine (hsz.out _ (ext_trans hE0.out HE1.out)).mono ?_
          rintro e w2 ⟨rfl, hE2⟩
          have HE2 := Lib.hid (ext_trans HE1.out hE2)
          clear hE2 q0 q1 q2 lb
          have q0 := block_cell (hB.out w2 HE2.out) 0
          have q1 := block_cell (hB.out w2 HE2.out) 1
          have q2 := block_cell (hB.out w2 HE2.out) 2
          have lb := block_lt (hB.out w2 HE2.out)
          simp at q0 q1 q2
          go_wp2_with (go_at_call 62; refine (form_any t _ _ HN.out (PV_ext HV.out (ext_trans hE0.out HE2.out))).mono ?_; rintro e w3 ⟨rfl, hE3⟩; rw [HF.out]; have HE3 := Lib.hid (ext_trans (ext_trans hE0.out HE2.out) hE3); clear hE3)
          refine bodyPost_ret (results_tmp rfl _ _ _) rfl ?_
          exact ⟨rfl, HE3.out⟩
        | false =>
          have hc : chk t = 1 := by rw [HCHK.out, hd, if_pos rfl, if_neg h200, hf]; rfl
          have HF := Lib.hid hf
          rw [hc]
          clear hd hc hf
          go_enter Try.func23, Try.ntmps23
          go_wp2_with fail
          refine (deep_any t 40 _ _ HN.out (PV_ext HV.out hE0.out) (by omega) (by omega)).mono ?_
          rintro e w1 ⟨rfl, hE1⟩
          rw [HD.out]
          have HE1 := Lib.hid hE1
          have q0 := block_cell (hB.out w1 hE1) 0
          have q1 := block_cell (hB.out w1 hE1) 1
          have q2 := block_cell (hB.out w1 hE1) 2
          have lb := block_lt (hB.out w1 hE1)
          simp at q0 q1 q2
          clear hE1
          go_wp2_with fail
          refine (hsz.out _ (ext_trans hE0.out HE1.out)).mono ?_
          rintro e w2 ⟨rfl, hE2⟩
          have HE2 := Lib.hid (ext_trans HE1.out hE2)
          clear hE2 q0 q1 q2 lb
          have q0 := block_cell (hB.out w2 HE2.out) 0
          have q1 := block_cell (hB.out w2 HE2.out) 1
          have q2 := block_cell (hB.out w2 HE2.out) 2
          have lb := block_lt (hB.out w2 HE2.out)
          simp at q0 q1 q2
          go_wp2_with (go_at_call 62; refine (form_any t _ _ HN.out (PV_ext HV.out (ext_trans hE0.out HE2.out))).mono ?_; rintro e w3 ⟨rfl, hE3⟩; rw [HF.out]; have HE3 := Lib.hid (ext_trans (ext_trans hE0.out HE2.out) hE3); clear hE3)
          refine bodyPost_ret (results_tmp rfl _ _ _) rfl ?_
          exact ⟨rfl, HE3.out⟩
end Go.Proofs.Ytiabmdboacpmcaa
