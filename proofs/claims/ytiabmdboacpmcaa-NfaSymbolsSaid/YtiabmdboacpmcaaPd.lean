/- deep, size, form and Check of a path. -/
import Derived.Test.YtiabmdboacpmcaaPc
namespace Go.Proofs.Ytiabmdboacpmcaa
open Go Go.RowKit Go.Sort
set_option maxHeartbeats 800000

theorem enter_fn {f : FuncId} {fn : Func} {c : Code} (hf : Try.prog.funcs[f]? = some fn) (hname : (fn.name == "runtime.NumGoroutine") = false) (hb : fn.body = some c) (args : Array Value) (w : World) : (callFunc f args).run Try.prog w = .ok (.enter f args) w := by
  have h1 : fn.name ≠ "runtime.NumGoroutine" := by simpa using hname
  simp [callFunc, hf, h1, hb]
theorem eg88 (args : Array Value) (w : World) : (callFunc 88 args).run Try.prog w = .ok (.enter 88 args) w := enter_fn Try.func88 (by kernel_rfl) rfl args w
theorem eg89 (args : Array Value) (w : World) : (callFunc 89 args).run Try.prog w = .ok (.enter 89 args) w := enter_fn Try.func89 (by kernel_rfl) rfl args w

theorem sizeT_pos (t : Tr) : 1 ≤ sizeT t := by cases t; rw [sizeT]; omega
theorem sizeL_mem : ∀ {ps : List Tr} {q : Tr}, q ∈ ps → sizeT q ≤ sizeL ps
  | p :: r, q, h => by
    rw [sizeL]
    rcases List.mem_cons.1 h with rfl | h
    · omega
    · have := sizeL_mem h; omega
theorem sizeL_len : ∀ (ps : List Tr), ps.length ≤ sizeL ps
  | [] => by simp [sizeL]
  | p :: r => by
    have := sizeL_len r
    have := sizeT_pos p
    rw [sizeL, List.length_cons]; omega
theorem deepL_any (l : Int) : ∀ ps : List Tr, (ps.any fun q => !deepB q l) = !deepL ps l
  | [] => by rw [deepL]; rfl
  | p :: r => by rw [List.any_cons, deepL_any l r, deepL, Bool.not_and]
theorem formL_any : ∀ ps : List Tr, (ps.any fun q => !formB q) = !formL ps
  | [] => by rw [formL]; rfl
  | p :: r => by rw [List.any_cons, formL_any r, formL, Bool.not_and]

def DeepAt (N : Nat) : Prop := ∀ (t : Tr) (l : Int) (v : Value) (w : World), sizeT t ≤ N → PV w t v → l ≤ 1000 → -1000 ≤ l → Calls Try.prog 60 #[v, .int .i64 l] w fun e w' => e = .returned (.bool (deepB t l)) ∧ Ext w w'
theorem deep1_any {N : Nat} (hd : DeepAt N) (t : Tr) (l : Int) (v : Value) (w : World) (bl : Nat) (hN : sizeT t ≤ N) (hv : PV w t v) (hl : l ≤ 1000) (hl0 : 0 < l) (hb : w.heap[bl]? = some (.cells #[.int .i64 l] 3 (0, 0))) :
    Calls Try.prog 88 #[v, .pointer (some ⟨bl, 0, none⟩)] w fun e w' => e = .returned (.bool (!deepB t (l - 1))) ∧ Ext w w' := by
  have HV := Lib.hid hv
  have c0 := Lib.hid hd
  have HB := Lib.hid hb
  cases t with
  | node k n ps =>
    obtain ⟨s, rfl, hs⟩ := hv
    have q0 : w.cell? ⟨bl, 0, none⟩ = some (.int .i64 l) := block_cell hb 0
    have lb := block_lt hb
    clear hs hd hb
    go_enter Try.func88, Try.ntmps88
    go_wp2_with (go_at_call 60; refine (c0.out (.node k n ps) (l - 1) _ _ hN (PV_ext HV.out (ext_alloc (ext_refl _) _)) (by omega) (by omega)).mono ?_; rintro e w1 ⟨rfl, hE1⟩; have HE1 := Lib.hid (ext_trans (ext_alloc (ext_refl _) _) hE1); clear hE1)
    refine bodyPost_ret (results_tmp rfl _ _ _) rfl ?_
    exact ⟨rfl, HE1.out⟩
theorem heap_two (w : World) (o0 o1 : Obj) : ((w.alloc o0).alloc o1).heap[w.heap.size]? = some o0 ∧ ((w.alloc o0).alloc o1).heap[w.heap.size + 1]? = some o1 := by
  have h1 := heap_alloc_new (w.alloc o0) o1
  rw [World.size_alloc] at h1
  exact ⟨(Below.heap_alloc _ _ _ (by simp)).trans (heap_alloc_new w o0), h1⟩
theorem ext_two (w : World) (o0 o1 : Obj) : Ext w ((w.alloc o0).alloc o1) := ext_alloc (ext_alloc (ext_refl _) _) _
theorem deep_step {N : Nat} (hd : DeepAt N) (hN1 : N ≤ 100000) : DeepAt (N + 1) := by
  intro t l v w hN hv hl hl0
  by_cases hpos : 0 < l
  · cases t with
    | node k n ps =>
      rw [sizeT] at hN
      have HV := Lib.hid hv
      have HD := Lib.hid hd
      obtain ⟨s, rfl, hs⟩ := hv
      have HS := Lib.hid hs
      clear hs hd
      obtain ⟨A, c, rfl⟩ := PS_form HS.out
      have hlen := sizeL_len ps
      have hany := deepL_any (l - 1) ps
      have HANY := Lib.hid hany
      clear hany
      have hdt : deepB (.node k n ps) l = deepL ps (l - 1) := by rw [deepB, decide_eq_true hpos, Bool.true_and]
      rw [hdt]
      clear hdt
      go_enter Try.func60, Try.ntmps60
      go_wp2_with fail
      have hE0 := ext_two w (.cells #[.int .i64 k, .int .i64 n, .slice A ps.length c] 30) (.cells #[.int .i64 l] 3)
      have hb := (heap_two w (.cells #[.int .i64 k, .int .i64 n, .slice A ps.length c] 30) (.cells #[.int .i64 l] 3)).2
      have hcb : CbOn 88 #[.pointer (some ⟨w.heap.size + 1, 0, none⟩)] ps (fun q => !deepB q (l - 1)) ((w.alloc (.cells #[.int .i64 k, .int .i64 n, .slice A ps.length c] 30)).alloc (.cells #[.int .i64 l] 3)) := fun q hq v1 w1 hE1 hv1 => deep1_any HD.out q l v1 w1 _ (Nat.le_trans (sizeL_mem hq) (by omega)) hv1 hl hpos ((ext_block hE1 (block_lt hb)).trans hb)
      refine (containsFunc_any 88 _ eg88 ps (fun q => !deepB q (l - 1)) _ _ (PS_ext HS.out hE0) hcb (by omega)).mono ?_
      rintro e w1 ⟨rfl, hE1⟩
      rw [HANY.out]
      have HE1 := Lib.hid (ext_trans hE0 hE1)
      clear hE1 hE0 hb
      go_wp2
      refine bodyPost_ret (results_tmp rfl _ _ _) rfl ?_
      exact ⟨by simp, HE1.out⟩
  · have hd0 : deepB t l = false := by cases t; rw [deepB, decide_eq_false hpos]; rfl
    rw [hd0]
    cases t with
    | node k n ps =>
      obtain ⟨s, rfl, hs⟩ := hv
      clear hs hd hd0
      go_enter Try.func60, Try.ntmps60
      go_wp2
      refine bodyPost_ret (results_tmp rfl _ _ _) rfl ?_
      exact ⟨rfl, ext_two _ _ _⟩
theorem deep_all : ∀ N : Nat, N ≤ 100000 → DeepAt N
  | 0, _ => fun t l v w hN => by have := sizeT_pos t; omega
  | N + 1, h => deep_step (deep_all N (by omega)) (by omega)
theorem deep_any (t : Tr) (l : Int) (v : Value) (w : World) (hN : sizeT t ≤ 100000) (hv : PV w t v) (hl : l ≤ 1000) (hl0 : -1000 ≤ l) : Calls Try.prog 60 #[v, .int .i64 l] w fun e w' => e = .returned (.bool (deepB t l)) ∧ Ext w w' :=
  deep_all 100000 (Nat.le_refl _) t l v w hN hv hl hl0

/- form -/
def FormAt (N : Nat) : Prop := ∀ (t : Tr) (v : Value) (w : World), sizeT t ≤ N → PV w t v → Calls Try.prog 62 #[v] w fun e w' => e = .returned (.bool (formB t)) ∧ Ext w w'
theorem form1_any {N : Nat} (hd : FormAt N) (t : Tr) (v : Value) (w : World) (hN : sizeT t ≤ N) (hv : PV w t v) :
    Calls Try.prog 89 #[v] w fun e w' => e = .returned (.bool (!formB t)) ∧ Ext w w' := by
  have HV := Lib.hid hv
  have c0 := Lib.hid hd
  cases t with
  | node k n ps =>
    obtain ⟨s, rfl, hs⟩ := hv
    clear hs hd
    go_enter Try.func89, Try.ntmps89
    go_wp2_with (go_at_call 62; refine (c0.out (.node k n ps) _ _ hN (PV_ext HV.out (ext_alloc (ext_refl _) _))).mono ?_; rintro e w1 ⟨rfl, hE1⟩; have HE1 := Lib.hid (ext_trans (ext_alloc (ext_refl _) _) hE1); clear hE1)
    refine bodyPost_ret (results_tmp rfl _ _ _) rfl ?_
    exact ⟨rfl, HE1.out⟩
theorem form_parts {N : Nat} (hd : FormAt N) (hN1 : N ≤ 100000) (ps : List Tr) (s : Value) (w w0 : World) (hN : sizeL ps ≤ N) (hs : PS w ps s) (hE : Ext w w0) : Calls Try.prog 66 #[s, .func (.func 89) #[] #[]] w0 fun e w' => e = .returned (.bool (!formL ps)) ∧ Ext w w' := by
  have hlen := sizeL_len ps
  refine (containsFunc_any 89 _ eg89 ps (fun q => !formB q) _ _ (PS_ext hs hE) (fun q hq v1 w1 hE1 hv1 => by simpa using form1_any hd q v1 w1 (Nat.le_trans (sizeL_mem hq) hN) hv1) (by omega)).mono ?_
  rintro e w1 ⟨rfl, hE1⟩
  exact ⟨by rw [formL_any], ext_trans hE hE1⟩
theorem form_step {N : Nat} (hd : FormAt N) (hN1 : N ≤ 100000) : FormAt (N + 1) := by
  intro t v w hN hv
  cases t with
  | node k n ps =>
    rw [sizeT] at hN
    obtain ⟨s, rfl, hs⟩ := hv
    have hlen := sizeL_len ps
    have c0 := Lib.hid (fun w0 (hE : Ext w w0) => form_parts hd hN1 ps s w w0 (by omega) hs hE)
    obtain ⟨A, c, rfl⟩ := PS_form hs
    clear hd hs
    by_cases h01 : k = 0 ∨ k = 1
    · have hf : formB (.node k n ps) = (decide (ps = []) && decide (0 ≤ n)) := by rw [formB, if_pos h01]
      rw [hf]
      clear hf
      by_cases hps : ps = []
      · subst hps
        by_cases hn : 0 ≤ n
        · rw [decide_eq_true hn]
          rcases h01 with rfl | rfl
          all_goals
            go_enter Try.func62, Try.ntmps62
            go_wp2
            refine bodyPost_ret (results_tmp rfl _ _ _) rfl ?_
            exact ⟨rfl, ext_alloc (ext_refl _) _⟩
        · rw [decide_eq_false hn]
          rcases h01 with rfl | rfl
          all_goals
            go_enter Try.func62, Try.ntmps62
            go_wp2
            refine bodyPost_ret (results_tmp rfl _ _ _) rfl ?_
            exact ⟨rfl, ext_alloc (ext_refl _) _⟩
      · rw [decide_eq_false hps, Bool.false_and]
        have hl0 : ((ps.length : Int) == 0) = false := by
          have : 0 < ps.length := List.length_pos_iff.2 hps
          rw [beq_eq_false_iff_ne]; omega
        have H := Lib.hid hps
        clear hps
        rcases h01 with rfl | rfl
        all_goals
          go_enter Try.func62, Try.ntmps62
          go_wp2
          refine bodyPost_ret (results_tmp rfl _ _ _) rfl ?_
          exact ⟨rfl, ext_alloc (ext_refl _) _⟩
    by_cases h23 : k = 2 ∨ k = 3
    · have hf : formB (.node k n ps) = (!decide (ps = []) && formL ps) := by rw [formB, if_neg h01, if_pos h23]
      rw [hf]
      clear hf h01
      by_cases hps : ps = []
      · subst hps
        rcases h23 with rfl | rfl
        all_goals
          go_enter Try.func62, Try.ntmps62
          go_wp2
          refine bodyPost_ret (results_tmp rfl _ _ _) rfl ?_
          exact ⟨rfl, ext_alloc (ext_refl _) _⟩
      · rw [decide_eq_false hps]
        have hl0 : ((ps.length : Int) == 0) = false := by
          have : 0 < ps.length := List.length_pos_iff.2 hps
          rw [beq_eq_false_iff_ne]; omega
        have H := Lib.hid hps
        clear hps
        rcases h23 with rfl | rfl
        all_goals
          go_enter Try.func62, Try.ntmps62
          go_wp2_with (go_at_call 66; refine (c0.out _ (ext_alloc (ext_refl _) _)).mono ?_; rintro e w1 ⟨rfl, hE1⟩; have HE1 := Lib.hid hE1; clear hE1)
          refine bodyPost_ret (results_tmp rfl _ _ _) rfl ?_
          exact ⟨by simp, HE1.out⟩
    by_cases h456 : k = 4 ∨ k = 5 ∨ k = 6
    · have hf : formB (.node k n ps) = (decide (ps.length = 1) && formL ps) := by rw [formB, if_neg h01, if_neg h23, if_pos h456]
      rw [hf]
      clear hf h01 h23
      by_cases hps : ps.length = 1
      · have hl1 : ((ps.length : Int) != 1) = false := by rw [hps]; rfl
        rw [decide_eq_true hps]
        have H := Lib.hid hps
        clear hps
        rcases h456 with rfl | rfl | rfl
        all_goals
          go_enter Try.func62, Try.ntmps62
          go_wp2_with (go_at_call 66; refine (c0.out _ (ext_alloc (ext_refl _) _)).mono ?_; rintro e w1 ⟨rfl, hE1⟩; have HE1 := Lib.hid hE1; clear hE1)
          refine bodyPost_ret (results_tmp rfl _ _ _) rfl ?_
          exact ⟨by simp, HE1.out⟩
      · have hl1 : ((ps.length : Int) != 1) = true := by rw [bne_iff_ne]; omega
        rw [decide_eq_false hps]
        have H := Lib.hid hps
        clear hps
        rcases h456 with rfl | rfl | rfl
        all_goals
          go_enter Try.func62, Try.ntmps62
          go_wp2
          refine bodyPost_ret (results_tmp rfl _ _ _) rfl ?_
          exact ⟨rfl, ext_alloc (ext_refl _) _⟩
    · have hf : formB (.node k n ps) = false := by rw [formB, if_neg h01, if_neg h23, if_neg h456]
      rw [hf]
      have e0 : (k == 0) = false := by rw [beq_eq_false_iff_ne]; omega
      have e1 : (k == 1) = false := by rw [beq_eq_false_iff_ne]; omega
      have e2 : (k == 2) = false := by rw [beq_eq_false_iff_ne]; omega
      have e3 : (k == 3) = false := by rw [beq_eq_false_iff_ne]; omega
      have e4 : (k == 4) = false := by rw [beq_eq_false_iff_ne]; omega
      have e5 : (k == 5) = false := by rw [beq_eq_false_iff_ne]; omega
      have e6 : (k == 6) = false := by rw [beq_eq_false_iff_ne]; omega
      clear hf h01 h23 h456
      go_enter Try.func62, Try.ntmps62
      go_wp2
      refine bodyPost_ret (results_tmp rfl _ _ _) rfl ?_
      exact ⟨rfl, ext_alloc (ext_refl _) _⟩
theorem form_all : ∀ N : Nat, N ≤ 100000 → FormAt N
  | 0, _ => fun t v w hN => by have := sizeT_pos t; omega
  | N + 1, h => form_step (form_all N (by omega)) (by omega)
theorem form_any (t : Tr) (v : Value) (w : World) (hN : sizeT t ≤ 100000) (hv : PV w t v) : Calls Try.prog 62 #[v] w fun e w' => e = .returned (.bool (formB t)) ∧ Ext w w' :=
  form_all 100000 (Nat.le_refl _) t v w hN hv
end Go.Proofs.Ytiabmdboacpmcaa
