/- Plain: rows put in order, one by one; the document's Less. -/
import Derived.Test.YtniggdaakiofeaaDoorEe
import Derived.Sort.Defs
import Derived.Test.YtniggdaakiofeaaDoorEd
namespace Go.Proofs.YtniggdaakiofeaaDoor
open Go Go.RowKit Go.Sort
set_option maxHeartbeats 4000000
/- of this seat alone: 80 -/

def insRev {α : Type} (lt : α → α → Bool) (x : α) : List α → List α
  | [] => [x]
  | y :: r => if lt x y then y :: insRev lt x r else x :: y :: r
def insL {α : Type} (lt : α → α → Bool) (P : List α) (x : α) : List α := (insRev lt x P.reverse).reverse
def sortL {α : Type} (lt : α → α → Bool) (M : List α) : List α := M.foldl (insL lt) []
theorem insL_nil {α : Type} (lt : α → α → Bool) (x : α) : insL lt [] x = [x] := rfl
theorem insL_snoc {α : Type} (lt : α → α → Bool) (P : List α) (x y : α) : insL lt (P ++ [y]) x = if lt x y then insL lt P x ++ [y] else P ++ [y, x] := by
  unfold insL
  rw [List.reverse_append, List.reverse_singleton, List.singleton_append, insRev]
  split <;> simp
theorem insL_len {α : Type} (lt : α → α → Bool) (P : List α) (x : α) : (insL lt P x).length = P.length + 1 := by
  unfold insL
  have : ∀ R : List α, (insRev lt x R).length = R.length + 1 := by
    intro R
    induction R with
    | nil => rfl
    | cons y R ih => rw [insRev]; split <;> simp [ih]
  rw [List.length_reverse, this, List.length_reverse]
theorem insL_mem {α : Type} {lt : α → α → Bool} {P : List α} {x y : α} : y ∈ insL lt P x ↔ y ∈ P ∨ y = x := by
  unfold insL
  have : ∀ R : List α, y ∈ insRev lt x R ↔ y ∈ R ∨ y = x := by
    intro R
    induction R with
    | nil => simp [insRev]
    | cons z R ih =>
      rw [insRev]
      split
      · rw [List.mem_cons, ih, List.mem_cons, or_assoc]
      · rw [List.mem_cons, or_comm]
  rw [List.mem_reverse, this, List.mem_reverse]
theorem insL_perm {α : Type} (lt : α → α → Bool) (P : List α) (x : α) : (insL lt P x).Perm (P ++ [x]) := by
  unfold insL
  have : ∀ R : List α, (insRev lt x R).Perm (x :: R) := by
    intro R
    induction R with
    | nil => exact .refl _
    | cons y R ih =>
      rw [insRev]
      split
      · exact (ih.cons y).trans (List.Perm.swap x y R)
      · exact .refl _
  refine (List.reverse_perm _).trans ((this _).trans ?_)
  refine ((List.reverse_perm P).cons x).trans ?_
  exact (List.perm_append_comm (l₁ := [x]) (l₂ := P))
/-- where it goes -/
theorem insL_at {α : Type} {lt : α → α → Bool} {P : List α} {x : α} {k : Nat} (hk : k ≤ P.length) (h1 : ∀ i y, k ≤ i → P[i]? = some y → lt x y = true) (h2 : ∀ y, P[k - 1]? = some y → k ≠ 0 → lt x y = false) : insL lt P x = P.take k ++ x :: P.drop k := by
  have key : ∀ (A B : List α), (∀ y ∈ B, lt x y = true) → (∀ y, A.head? = some y → lt x y = false) → insRev lt x (B ++ A) = B ++ x :: A := by
    intro A B
    induction B with
    | nil =>
      intro _ hA
      cases A with
      | nil => rfl
      | cons y A => rw [List.nil_append, insRev, if_neg (by rw [hA y rfl]; simp)]; rfl
    | cons y B ih =>
      intro hB hA
      rw [List.cons_append, insRev, if_pos (hB y (List.mem_cons_self ..)), ih (fun z hz => hB z (List.mem_cons_of_mem _ hz)) hA]
      rfl
  have e : P.reverse = (P.drop k).reverse ++ (P.take k).reverse := by rw [← List.reverse_append, List.take_append_drop]
  unfold insL
  rw [e, key]
  · simp
  · intro y hy
    obtain ⟨i, hi⟩ := List.getElem?_of_mem (List.mem_reverse.1 hy)
    rw [List.getElem?_drop] at hi
    exact h1 _ y (by omega) hi
  · intro y hy
    rw [List.head?_reverse, List.getLast?_eq_getElem?, List.length_take, Nat.min_eq_left hk] at hy
    by_cases h0 : k = 0
    · subst h0; simp at hy
    · rw [List.getElem?_take] at hy
      split at hy
      · exact h2 y hy h0
      · cases hy
theorem insL_map {α β : Type} {lt : α → α → Bool} {lt' : β → β → Bool} (f : α → β) {P : List α} {x : α} (h : ∀ y ∈ P, lt' (f x) (f y) = lt x y) : insL lt' (P.map f) (f x) = (insL lt P x).map f := by
  unfold insL
  have : ∀ R : List α, (∀ y ∈ R, lt' (f x) (f y) = lt x y) → insRev lt' (f x) (R.map f) = (insRev lt x R).map f := by
    intro R
    induction R with
    | nil => intro _; rfl
    | cons y R ih =>
      intro hR
      rw [List.map_cons, insRev, insRev, hR y (List.mem_cons_self ..)]
      split
      · rw [ih (fun z hz => hR z (List.mem_cons_of_mem _ hz)), List.map_cons]
      · rfl
  rw [← List.map_reverse, this _ (fun y hy => h y (List.mem_reverse.1 hy)), List.map_reverse]
theorem sortL_take {α : Type} {lt : α → α → Bool} {M : List α} {j : Nat} {x : α} (h : M[j]? = some x) : sortL lt (M.take (j + 1)) = insL lt (sortL lt (M.take j)) x := by
  unfold sortL
  rw [List.take_add_one, h, Option.toList_some, List.foldl_append]
  rfl
theorem foldl_ins_mem {α : Type} {lt : α → α → Bool} {y : α} : ∀ {M T : List α}, y ∈ M.foldl (insL lt) T ↔ y ∈ T ∨ y ∈ M
  | [], T => by simp
  | x :: M, T => by rw [List.foldl_cons, foldl_ins_mem, insL_mem, List.mem_cons, or_assoc]
theorem sortL_mem {α : Type} {lt : α → α → Bool} {M : List α} {y : α} : y ∈ sortL lt M ↔ y ∈ M := by
  unfold sortL
  rw [foldl_ins_mem]
  simp
theorem foldl_ins_len {α : Type} {lt : α → α → Bool} : ∀ {M T : List α}, (M.foldl (insL lt) T).length = T.length + M.length
  | [], T => by simp
  | x :: M, T => by rw [List.foldl_cons, foldl_ins_len, insL_len, List.length_cons]; omega
theorem sortL_len {α : Type} (lt : α → α → Bool) (M : List α) : (sortL lt M).length = M.length := by
  unfold sortL
  rw [foldl_ins_len]
  simp
theorem foldl_ins_perm {α : Type} {lt : α → α → Bool} : ∀ {M T : List α}, (M.foldl (insL lt) T).Perm (T ++ M)
  | [], T => by simp
  | x :: M, T => by
    rw [List.foldl_cons]
    refine (foldl_ins_perm (M := M) (T := insL lt T x)).trans ?_
    rw [show T ++ x :: M = (T ++ [x]) ++ M by simp]
    exact (insL_perm lt T x).append_right M
theorem sortL_perm {α : Type} (lt : α → α → Bool) (M : List α) : (sortL lt M).Perm M := (foldl_ins_perm (lt := lt) (M := M) (T := [])).trans (by simp)
theorem foldl_ins_map {α β : Type} {lt : α → α → Bool} {lt' : β → β → Bool} (f : α → β) : ∀ {M T : List α}, (∀ x, x ∈ T ∨ x ∈ M → ∀ y, y ∈ T ∨ y ∈ M → lt' (f x) (f y) = lt x y) → (M.map f).foldl (insL lt') (T.map f) = (M.foldl (insL lt) T).map f
  | [], T, _ => rfl
  | x :: M, T, h => by
    rw [List.map_cons, List.foldl_cons, List.foldl_cons, insL_map f (fun y hy => h x (.inr (List.mem_cons_self ..)) y (.inl hy))]
    refine foldl_ins_map f (fun a ha b hb => h a ?_ b ?_)
    · rcases ha with ha | ha
      · rcases insL_mem.1 ha with ha | rfl
        · exact .inl ha
        · exact .inr (List.mem_cons_self ..)
      · exact .inr (List.mem_cons_of_mem _ ha)
    · rcases hb with hb | hb
      · rcases insL_mem.1 hb with hb | rfl
        · exact .inl hb
        · exact .inr (List.mem_cons_self ..)
      · exact .inr (List.mem_cons_of_mem _ hb)
theorem sortL_map {α β : Type} {lt : α → α → Bool} {lt' : β → β → Bool} (f : α → β) {M : List α} (h : ∀ x ∈ M, ∀ y ∈ M, lt' (f x) (f y) = lt x y) : sortL lt' (M.map f) = (sortL lt M).map f :=
  foldl_ins_map (T := []) f (fun x hx y hy => h x (hx.resolve_left (fun h => by cases h)) y (hy.resolve_left (fun h => by cases h)))
/-- the library's way -/
theorem insInner_list {α : Type} [Inhabited α] (lt : α → α → Bool) (x : α) : ∀ (j : Nat) (P Q : List α), P.length = j → (insInner lt 0 j (P ++ x :: Q).toArray).toList = insL lt P x ++ Q
  | 0, P, Q, h => by
    obtain rfl := List.eq_nil_of_length_eq_zero h
    rfl
  | j + 1, P, Q, h => by
    obtain ⟨P', y, rfl⟩ : ∃ P' y, P = P' ++ [y] := by
      have hne : P ≠ [] := fun e => by rw [e] at h; simp at h
      exact ⟨P.dropLast, P.getLast hne, (List.dropLast_concat_getLast hne).symm⟩
    have hl : P'.length = j := by simpa using h
    have e1 : ((P' ++ [y]) ++ x :: Q).toArray[j + 1]! = x := by simp [← hl]
    have e2 : ((P' ++ [y]) ++ x :: Q).toArray[j]! = y := by simp [← hl]
    rw [insInner, e1, e2, insL_snoc]
    by_cases hlt : lt x y = true
    · rw [if_pos (by simp [hlt]), if_pos hlt]
      have e3 : swp ((P' ++ [y]) ++ x :: Q).toArray (j + 1) j = (P' ++ x :: (y :: Q)).toArray := by
        unfold swp
        rw [e1, e2]
        simp [← hl, List.set_append]
      rw [e3, insInner_list lt x j P' (y :: Q) hl]
      simp
    · rw [if_neg (by simp [hlt]), if_neg hlt]
      simp
theorem insOuter_list {α : Type} [Inhabited α] (lt : α → α → Bool) : ∀ (Q P : List α), (insOuter lt 0 (P.length + Q.length) P.length (P ++ Q).toArray).toList = Q.foldl (insL lt) P
  | [], P => by rw [insOuter, if_neg (by simp)]; simp
  | x :: Q, P => by
    rw [insOuter, if_pos (by simp)]
    have h1 := insInner_list lt x P.length P Q rfl
    have h2 : insInner lt 0 P.length (P ++ x :: Q).toArray = (insL lt P x ++ Q).toArray := by rw [← h1]
    have h3 := insOuter_list lt Q (insL lt P x)
    rw [insL_len] at h3
    rw [h2, List.foldl_cons, ← h3, List.length_cons]
    congr 2
    omega
theorem insertion_list {α : Type} [Inhabited α] (lt : α → α → Bool) (M : List α) : (insertionSort lt M.toArray 0 M.length).toList = sortL lt M := by
  unfold insertionSort
  cases M with
  | nil => rw [insOuter, if_neg (by simp)]; rfl
  | cons x M =>
    have h := insOuter_list lt M [x]
    rw [List.singleton_append] at h
    rw [sortL, List.foldl_cons, insL_nil, ← h]
    simp [Nat.add_comm]
/-- how rows stand, number by number -/
def eltN (a b : Int) : Int := if a < 0 ∨ b < 0 then (if min a 0 < min b 0 then -1 else if min b 0 < min a 0 then 1 else 0) else a - b
def cmpL : List Int → List Int → Int
  | [], [] => 0
  | [], _ :: _ => -1
  | _ :: _, [] => 1
  | a :: x, b :: y => if eltN a b ≠ 0 then eltN a b else cmpL x y
def ltR (x y : List Int) : Bool := decide (cmpL x y < 0)
theorem eltN_zero {a b : Int} (ha : -1 ≤ a) (hb : -1 ≤ b) : eltN a b = 0 ↔ a = b := by
  unfold eltN
  split
  · split
    · omega
    · split <;> omega
  · omega
theorem eltN_neg {a b : Int} (ha : -1 ≤ a) (hb : -1 ≤ b) : eltN a b < 0 ↔ a < b := by
  unfold eltN
  split
  · split
    · omega
    · split <;> omega
  · omega
/-- is a row ahead of another one, var by var -/
def ltQ : List ByteArray → List VarN → List VarN → Bool
  | [], _, _ => false
  | v :: V, a, b => if getR a v = getR b v then ltQ V a b else decide (getR a v < getR b v)
theorem lt_same {a b : List VarN} (ha : RiseR a) (hb : RiseR b) : ∀ V : List ByteArray, ltR (rowD V a) (rowD V b) = ltQ V a b
  | [] => rfl
  | v :: V => by
    have ih := lt_same ha hb V
    have h1 := getR_lo ha v
    have h2 := getR_lo hb v
    unfold ltR rowD at ih ⊢
    rw [List.map_cons, List.map_cons, cmpL, ltQ]
    by_cases h : getR a v = getR b v
    · rw [if_pos h, if_neg (by simpa using (eltN_zero h1 h2).2 h), ih]
    · rw [if_neg h, if_pos (fun e => h ((eltN_zero h1 h2).1 e))]
      congr 1
      exact propext (eltN_neg h1 h2)
theorem ltQ_drop {V : List ByteArray} {a b : List VarN} {j : Nat} {v : ByteArray} (h : V[j]? = some v) : ltQ (V.drop j) a b = if getR a v = getR b v then ltQ (V.drop (j + 1)) a b else decide (getR a v < getR b v) := by
  obtain ⟨hj, he⟩ := List.getElem?_eq_some_iff.1 h
  rw [List.drop_eq_getElem_cons hj, ltQ, he]
def sortQ (V : List ByteArray) (M : List (List VarN)) : List (List VarN) := sortL (ltQ V) M
theorem sort_same {V : List ByteArray} {M : List (List VarN)} (hM : ∀ r ∈ M, okR V r) : sortL ltR (rowsD V M) = rowsD V (sortQ V M) :=
  sortL_map (rowD V) (fun x hx y hy => lt_same (hM x hx).1 (hM y hy).1 V)
theorem rless_any (vv av bv : Value) (V : List ByteArray) (a b : List VarN) (w : World) (hv : rowE elS w vv V) (ha : rowE elP w av a) (hb : rowE elP w bv b) (hm : V.length ≤ 1000000) (h1 : a.length ≤ 1000000) (h2 : b.length ≤ 1000000) :
    Calls Tryd.prog 69 #[vv, av, bv] w fun e w' => e = .returned (.bool (ltQ V a b)) ∧ Ext w w' := by
  have HGA := Lib.hid (show ∀ u w', Ext w w' → Calls Tryd.prog 48 #[av, .string u] w' (fun e w'' => e = .returned (.int .i64 (getR a u)) ∧ Ext w' w'') from fun u w' hE => (get_any av a u w' (rowE_ext ha hE) h1).mono fun e w'' h => ⟨h.1, h.2 ▸ ext_refl _⟩)
  have HGB := Lib.hid (show ∀ u w', Ext w w' → Calls Tryd.prog 48 #[bv, .string u] w' (fun e w'' => e = .returned (.int .i64 (getR b u)) ∧ Ext w' w'') from fun u w' hE => (get_any bv b u w' (rowE_ext hb hE) h2).mono fun e w'' h => ⟨h.1, h.2 ▸ ext_refl _⟩)
  obtain ⟨A0, c0, rfl⟩ := rowE_form hv
  obtain ⟨A, c, rfl⟩ := rowE_form ha
  obtain ⟨B, d, rfl⟩ := rowE_form hb
  have HV := Lib.hid hv
  clear ha hb hv
  go_enter Tryd.func69, Tryd.ntmps69
  go_wp2
  go_loopw [12] (fun z wr => ∃ j : Nat, j ≤ V.length ∧ z = .int .i64 j ∧ ltQ (V.drop j) a b = ltQ V a b ∧ Ext w wr) (fun z _ => V.length - (intOf z).toNat)
  case atStart => exact ⟨0, Nat.zero_le _, rfl, rfl, ext_refl _⟩
  case round =>
    rename World => wo
    obtain ⟨j, hj, rfl, hpre, hE⟩ := hrel
    have HP := Lib.hid hpre
    have HE := Lib.hid hE
    clear hpre hE
    by_cases hlt : j < V.length
    · have hji : (j : Int) < (V.length : Int) := by omega
      have hj0 : (0 : Int) ≤ (j : Int) := by omega
      obtain ⟨u, hu⟩ : ∃ q, V[j]? = some q := ⟨_, List.getElem?_eq_getElem hlt⟩
      obtain ⟨g, rfl, hg⟩ := rowE_some HV.out (fun e => by rw [e] at hu; simp at hu)
      have q0 := rowS_cell (rowE_ext HV.out HE.out) hu
      have lg := ext_lt HE.out hg
      have HD := Lib.hid (ltQ_drop (a := a) (b := b) hu)
      have CA := Lib.hid (fun w' (hE : Ext wo w') => HGA.out u w' (ext_trans HE.out hE))
      have CB := Lib.hid (fun w' (hE : Ext wo w') => HGB.out u w' (ext_trans HE.out hE))
      obtain ⟨m, hm'⟩ : ∃ m, m = getR a u := ⟨_, rfl⟩
      obtain ⟨n, hn'⟩ : ∃ n, n = getR b u := ⟨_, rfl⟩
      rw [← hm', ← hn'] at HD
      rw [← hm'] at CA
      rw [← hn'] at CB
      clear hu hm' hn' hg
      have hgc := cell_grown
      go_wp2
      refine wp_region_free 12 [0, 1, 2, 3, 4, 5, 6, 7, 8, 9, 10, 11] [] (by kernel_rfl) (by kernel_rfl) ?_
      iterate 6 (refine wpLoose_step rfl (fun K hK => ?_); (try simp only [Oper.quietAt, Oper.quietUpon]); go_simp; first | (refine hK _ ?_; clear hK K) | (apply Exists.intro; refine ⟨fun p => ?_, hK _ ?_⟩; (go_at_call 48; exact CA.out _ (ext_grow (ext_refl _) _ _)); clear hK K))
      repeat (refine wpLoose_step rfl (fun K hK => ?_); (try simp only [Oper.quietAt, Oper.quietUpon]); go_simp; first | (refine hK _ ?_; clear hK K) | (apply Exists.intro; refine ⟨fun p => ?_, hK _ ?_⟩; (go_at_call 48; exact CB.out _ (ext_grow (ext_refl _) _ _)); clear hK K))
      refine wpLoose_nil (wpFresh_nil (fun w3 hE3 _ => ?_))
      have HE3 := Lib.hid (ext_trans HE.out hE3)
      clear hE3 q0 lg hgc
      simp only [List.drop_succ_cons, List.drop_zero]
      by_cases hmn : m = n
      · have hne : (m != n) = false := by simp [hmn]
        have HMN := Lib.hid hmn
        clear hmn
        go_wp2
        go_roundw
        case rel => exact ⟨j + 1, by omega, by go_num, by rw [← HP.out, HD.out, if_pos HMN.out], HE3.out⟩
        case measure => simp [intOf]; omega
      · have hne : (m != n) = true := by simp [hmn]
        have HMN := Lib.hid hmn
        clear hmn
        go_wp2
        refine bodyPost_ret (results_tmp rfl _ _ _) rfl ?_
        exact ⟨by rw [← HP.out, HD.out, if_neg HMN.out]; rfl, HE3.out⟩
    · obtain rfl : j = V.length := by omega
      go_wp2
      refine bodyPost_ret (results_tmp rfl _ _ _) rfl ?_
      exact ⟨by rw [← HP.out, List.drop_length]; rfl, HE.out⟩
end Go.Proofs.YtniggdaakiofeaaDoor
