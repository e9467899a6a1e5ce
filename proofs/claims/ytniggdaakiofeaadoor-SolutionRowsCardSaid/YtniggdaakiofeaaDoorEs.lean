/- Sort, Distinct, Minus at tables that are the document's. -/
import Derived.Test.YtniggdaakiofeaaDoorEr
import Derived.Test.YtniggdaakiofeaaDoorEk
import Derived.Test.YtniggdaakiofeaaDoorEl
import Derived.Test.YtniggdaakiofeaaDoorEo
namespace Go.Proofs.YtniggdaakiofeaaDoor
open Go Go.RowKit Go.Sort
set_option maxHeartbeats 1000000
/- of this seat alone: 80 -/

theorem tabQ_form {H : Nat} {U : List ByteArray} {M : List (List VarN)} {v : Value} {w : World} (h : TabQ H U M v w) : ∃ A c B d, v = .agg #[.slice A U.length c, .slice B M.length d] ∧ Own H w (.slice A U.length c) (.slice B M.length d) U (rowsD U M) := by
  obtain ⟨x, y, rfl, how⟩ := h
  obtain ⟨A, c, rfl⟩ := rdS_form (rdS_row how.1.1)
  obtain ⟨B, d, rfl⟩ := rdW_form (own_rdW how)
  rw [rowsD_len] at how ⊢
  exact ⟨A, c, B, d, rfl, how⟩
theorem tD_form {U : List ByteArray} {M : List (List VarN)} {v : Value} {w : World} (h : TD w v U M) : ∃ A c B d, v = .agg #[.slice A U.length c, .slice B M.length d] := by
  obtain ⟨x, y, rfl, h1, h2⟩ := h
  obtain ⟨A, c, rfl⟩ := rowE_form h1
  obtain ⟨B, d, rfl⟩ := rdQ_form h2
  exact ⟨A, c, B, d, rfl⟩
/-- rows in order -/
def SortedL {α : Type} (lt : α → α → Bool) (M : List α) : Prop := M.Pairwise fun y x => lt x y = false
theorem insRev_sorted {α : Type} {lt : α → α → Bool} (ha : ∀ x y, lt x y = true → lt y x = false) (ht : ∀ x y z, lt x y = false → lt y z = false → lt x z = false) (x : α) : ∀ R : List α, R.Pairwise (fun x y => lt x y = false) → (insRev lt x R).Pairwise (fun x y => lt x y = false)
  | [], _ => by simp [insRev]
  | y :: r, h => by
    obtain ⟨h1, h2⟩ := List.pairwise_cons.1 h
    rw [insRev]
    split
    · rename_i hlt
      refine List.pairwise_cons.2 ⟨fun z hz => ?_, insRev_sorted ha ht x r h2⟩
      have hm : ∀ R : List α, z ∈ insRev lt x R → z ∈ R ∨ z = x := by
        intro R
        induction R with
        | nil => intro h; simpa [insRev] using h
        | cons a R ih =>
          intro h
          rw [insRev] at h
          split at h
          · rcases List.mem_cons.1 h with e | h
            · exact .inl (by rw [e]; exact List.mem_cons_self ..)
            · exact (ih h).elim (fun h => .inl (List.mem_cons_of_mem _ h)) .inr
          · rcases List.mem_cons.1 h with e | h
            · exact .inr e
            · exact .inl h
      rcases hm r hz with h3 | h3
      · exact h1 z h3
      · rw [h3]; exact ha x y hlt
    · rename_i hlt
      have hxy : lt x y = false := by simpa using hlt
      refine List.pairwise_cons.2 ⟨fun z hz => ?_, h⟩
      rcases List.mem_cons.1 hz with e | h3
      · rw [e]; exact hxy
      · exact ht x y z hxy (h1 z h3)
theorem insL_sorted {α : Type} {lt : α → α → Bool} (ha : ∀ x y, lt x y = true → lt y x = false) (ht : ∀ x y z, lt x y = false → lt y z = false → lt x z = false) (x : α) {P : List α} (h : SortedL lt P) : SortedL lt (insL lt P x) := by
  unfold SortedL insL at *
  rw [List.pairwise_reverse]
  exact insRev_sorted ha ht x _ (by rw [List.pairwise_reverse]; exact h)
theorem sortL_sorted {α : Type} {lt : α → α → Bool} (ha : ∀ x y, lt x y = true → lt y x = false) (ht : ∀ x y z, lt x y = false → lt y z = false → lt x z = false) (M : List α) : SortedL lt (sortL lt M) := by
  have : ∀ (M P : List α), SortedL lt P → SortedL lt (M.foldl (insL lt) P) := by
    intro M
    induction M with
    | nil => intro P h; exact h
    | cons x M ih => intro P h; exact ih _ (insL_sorted ha ht x h)
  exact this M [] .nil
theorem sortL_same {α : Type} {lt : α → α → Bool} {M : List α} (h : SortedL lt M) : sortL lt M = M := by
  have : ∀ (Q P : List α), SortedL lt (P ++ Q) → Q.foldl (insL lt) P = P ++ Q := by
    intro Q
    induction Q with
    | nil => intro P _; simp
    | cons x Q ih =>
      intro P hs
      have e : insL lt P x = P ++ [x] := by
        rcases List.eq_nil_or_concat P with rfl | ⟨P', y, rfl⟩
        · rfl
        · rw [List.concat_eq_append] at hs ⊢
          rw [insL_snoc, if_neg]
          · simp
          · have := (List.pairwise_append.1 hs).2.2 y (by simp) x (List.mem_cons_self ..)
            rw [this]; simp
      rw [List.foldl_cons, e, ih _ (by simpa using hs)]
      simp
  exact this M [] h
theorem ltQ_iff {a b : List VarN} : ∀ V : List ByteArray, ltQ V a b = true ↔ V.map (getR a) < V.map (getR b)
  | [] => by simp [ltQ]
  | v :: V => by
    rw [ltQ, List.map_cons, List.map_cons, List.cons_lt_cons_iff, ← ltQ_iff V]
    split
    · rename_i h; rw [h]; simp
    · rename_i h
      rw [decide_eq_true_iff]
      exact ⟨.inl, fun h1 => h1.elim id (fun h2 => absurd h2.1 h)⟩
theorem ltQ_asymm {V : List ByteArray} (x y : List VarN) (h : ltQ V x y = true) : ltQ V y x = false := by
  rw [Bool.eq_false_iff]
  intro h2
  exact List.lt_irrefl _ (List.lt_trans (ltQ_iff V |>.1 h) (ltQ_iff V |>.1 h2))
theorem ltQ_ntrans {V : List ByteArray} (x y z : List VarN) (h : ltQ V x y = false) (k : ltQ V y z = false) : ltQ V x z = false := by
  rw [Bool.eq_false_iff] at *
  rw [Ne, ltQ_iff, List.not_lt] at *
  exact List.le_trans k h
theorem sortQ_again (V : List ByteArray) (M : List (List VarN)) : sortQ V (sortQ V M) = sortQ V M := sortL_same (sortL_sorted ltQ_asymm ltQ_ntrans M)
theorem tb_sort {n m : Nat} {U : List ByteArray} {M : List (List VarN)} (a : Tb n m U M) : Tb n m U (sortQ U M) :=
  ⟨⟨a.q.rise, fun r h => a.q.ok r (sortL_mem.1 h), fun r h => a.q.tiny r (sortL_mem.1 h)⟩, a.vars, by rw [sortQ, sortL_len]; exact a.rows, fun r h => a.len r (sortL_mem.1 h)⟩
theorem tb_keep {n m : Nat} {U : List ByteArray} {M : List (List VarN)} (a : Tb n m U M) (okf : Nat → Bool) : Tb n m U (keepG okf M M.length) :=
  ⟨⟨a.q.rise, fun r h => a.q.ok r (keepG_mem h), fun r h => a.q.tiny r (keepG_mem h)⟩, a.vars, Nat.le_trans (keepG_len okf M M.length) a.rows, fun r h => a.len r (keepG_mem h)⟩
theorem sort_self {U : List ByteArray} (M : List (List VarN)) : sameB U U (rowsD U (sortQ U M)) (rowsD U M) = true := same_iff.2 ⟨rfl, perm_rows (sortL_perm _ M)⟩
theorem dist_same {U : List ByteArray} {M : List (List VarN)} (hM : ∀ r ∈ M, okR U r) : keepN (okN (rowsD U M)) (rowsD U M) (rowsD U M).length = rowsD U (distQ M) := by
  rw [rowsD_len]
  refine keepN_map (rowD U) (fun i hi => ?_) _ (Nat.le_refl _)
  obtain ⟨x, hx⟩ : ∃ x, M[i]? = some x := ⟨_, List.getElem?_eq_getElem hi⟩
  have hok := hM x (List.mem_of_getElem? hx)
  have e1 : (rowsD U M).getD i [] = rowD U x := by rw [List.getD_eq_getElem?_getD, rowsD, List.getElem?_map, hx]; rfl
  have e2 : (rowsD U M).take i = rowsD U (M.take i) := by simp [rowsD, List.map_take]
  have e3 : M.getD i [] = x := by rw [List.getD_eq_getElem?_getD, hx]; rfl
  unfold okN okD
  rw [e1, e2, e3, count_rows (fun r hr => hM r (List.mem_of_mem_take hr)) hok]
theorem sortTQ {n m H : Nat} (g : Nat) (eg : ∀ args w, (callFunc g args).run Tryd.prog w = .ok (.enter g args) w) (hg : CbO g) (tv : Value) {U : List ByteArray} {M : List (List VarN)} (w : World) (ht : TabQ H U M tv w) (a : Tb n m U M) (h1 : n ≤ 100) (h2 : m < 20) :
    Calls Tryd.prog 36 #[tv, .func (.func g) #[] #[]] w fun e w' => ∃ v', e = .returned v' ∧ TabQ w.heap.size U (sortQ U M) v' w' ∧ Ext w w' := by
  obtain ⟨x, y, rfl, k⟩ := tabQ_tab ht
  have hx := tb_rows a
  have hv := a.vars
  refine (sortT_any g eg hg x y U (rowsD U M) w k (by omega) (by omega) (isQ_tiny a.q) hx.1).mono ?_
  rintro e w' ⟨vv, rv, rfl, how, hE⟩
  rw [sort_same a.q.ok] at how
  exact ⟨_, rfl, ⟨vv, rv, rfl, how⟩, hE⟩
theorem distTQ {n m H : Nat} (tv : Value) {U : List ByteArray} {M : List (List VarN)} (w : World) (ht : TabQ H U M tv w) (hT : TabP w) (a : Tb n m U M) (h1 : n ≤ 100) (h2 : m ≤ 1000) :
    Calls Tryd.prog 34 #[tv] w fun e w' => ∃ v', e = .returned v' ∧ TabQ w.heap.size U (distQ M) v' w' ∧ Ext w w' := by
  obtain ⟨x, y, rfl, k⟩ := tabQ_tab ht
  have hx := tb_rows a
  have hv := a.vars
  refine (distinct_any x y U (rowsD U M) w k hT (by omega) (by omega) (isQ_tiny a.q) (fun y h => by rw [hx.1 y h]; omega)).mono ?_
  rintro e w' ⟨vv, rv, rfl, how, hE⟩
  rw [dist_same a.q.ok] at how
  exact ⟨_, rfl, ⟨vv, rv, rfl, how⟩, hE⟩
theorem rsortT {n m : Nat} (av : Value) {U : List ByteArray} {M : List (List VarN)} (w : World) (ha : TD w av U M) (a : Tb n m U M) (h1 : n ≤ 100) (h3 : m ≤ 300) :
    Calls Tryd.prog 37 #[av] w fun e w' => ∃ v', e = .returned v' ∧ TD w' v' U (sortQ U M) ∧ Ext w w' := by
  have ha' := ha
  obtain ⟨x, y, rfl, -, -⟩ := ha
  have hv := a.vars
  have hr := a.rows
  refine (rsort_any x y U M w ha' (by omega) (by omega) (fun r h => by have := a.len r h; omega)).mono ?_
  rintro e w' ⟨vv, rv, rfl, hto, hE⟩
  exact ⟨_, rfl, hto, hE⟩
theorem rdistT {n m : Nat} (av : Value) {U : List ByteArray} {M : List (List VarN)} (w : World) (ha : TD w av U M) (a : Tb n m U M) (h1 : n ≤ 100) (h3 : m ≤ 300) :
    Calls Tryd.prog 35 #[av] w fun e w' => ∃ v', e = .returned v' ∧ TD w' v' U (distQ M) ∧ Ext w w' := by
  have ha' := ha
  obtain ⟨x, y, rfl, -, -⟩ := ha
  have hv := a.vars
  have hr := a.rows
  refine (rdistinct_any x y U M w ha' (by omega) (by omega) (fun r h => by have := a.len r h; omega)).mono ?_
  rintro e w' ⟨vv, rv, rfl, hto, hE⟩
  exact ⟨_, rfl, hto, hE⟩
theorem egUp38 (args : Array Value) (w : World) : (callFunc 38 args).run Tryd.prog w = .ok (.enter 38 args) w := enter_fn Tryd.func38 (by kernel_rfl) rfl args w
theorem up38 : CbO 38 := fun a b w ha ha2 hb hb2 => by
  have hs : IntKind.i64.wrap (a - b) = a - b := IntWalk.i64_in _ (by omega)
  go_enter Tryd.func38, Tryd.ntmps38
  go_wp2
  refine bodyPost_ret (results_tmp rfl _ _ _) rfl ?_
  exact ⟨rfl, rfl⟩
theorem egUp31 (args : Array Value) (w : World) : (callFunc 31 args).run Tryd.prog w = .ok (.enter 31 args) w := enter_fn Tryd.func31 (by kernel_rfl) rfl args w
theorem up31 : CbO 31 := fun a b w ha ha2 hb hb2 => by
  have hs : IntKind.i64.wrap (a - b) = a - b := IntWalk.i64_in _ (by omega)
  go_enter Tryd.func31, Tryd.ntmps31
  go_wp2
  refine bodyPost_ret (results_tmp rfl _ _ _) rfl ?_
  exact ⟨rfl, rfl⟩
end Go.Proofs.YtniggdaakiofeaaDoor
