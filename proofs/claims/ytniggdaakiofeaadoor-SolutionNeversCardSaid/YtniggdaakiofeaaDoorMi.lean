/- Minus at tables that are the document's; a table without rows of another one's vars; fresh cells for a document's table. -/
import Derived.Test.YtniggdaakiofeaaDoorEr
import Derived.Test.YtniggdaakiofeaaDoorEh
namespace Go.Proofs.YtniggdaakiofeaaDoor
open Go Go.RowKit Go.Sort
set_option maxHeartbeats 1000000
/- of this seat alone: 80 -/

theorem tabM_form {H : Nat} {U : List ByteArray} {M : List (List VarN)} {v : Value} {w : World} (h : TabQ H U M v w) : ∃ A c B d, v = .agg #[.slice A U.length c, .slice B M.length d] ∧ Own H w (.slice A U.length c) (.slice B M.length d) U (rowsD U M) := by
  obtain ⟨x, y, rfl, how⟩ := h
  obtain ⟨A, c, rfl⟩ := rdS_form (rdS_row how.1.1)
  obtain ⟨B, d, rfl⟩ := rdW_form (own_rdW how)
  rw [rowsD_len] at how ⊢
  exact ⟨A, c, B, d, rfl, how⟩
theorem tDM_form {U : List ByteArray} {M : List (List VarN)} {v : Value} {w : World} (h : TD w v U M) : ∃ A c B d, v = .agg #[.slice A U.length c, .slice B M.length d] := by
  obtain ⟨x, y, rfl, h1, h2⟩ := h
  obtain ⟨A, c, rfl⟩ := rowE_form h1
  obtain ⟨B, d, rfl⟩ := rdQ_form h2
  exact ⟨A, c, B, d, rfl⟩
theorem tbM_keep {n m : Nat} {U : List ByteArray} {M : List (List VarN)} (a : Tb n m U M) (okf : Nat → Bool) : Tb n m U (keepG okf M M.length) :=
  ⟨⟨a.q.rise, fun r h => a.q.ok r (keepG_mem h), fun r h => a.q.tiny r (keepG_mem h)⟩, a.vars, Nat.le_trans (keepG_len okf M M.length) a.rows, fun r h => a.len r (keepG_mem h)⟩
/-- what goes: the rows of a table of the same vars -/
def goneQ (U V : List ByteArray) (N : List (List VarN)) : List (List VarN) := if U = V then N else []
theorem tb_minus {n m : Nat} {U : List ByteArray} {M : List (List VarN)} (a : Tb n m U M) (N : List (List VarN)) : Tb n m U (minusQ N M) := tbM_keep a _
theorem minusTQ {n m n' m' H H' : Nat} (av bv : Value) {U V : List ByteArray} {M N : List (List VarN)} (w : World) (ha : TabQ H U M av w) (hb : TabQ H' V N bv w) (hT : TabP w) (a : Tb n m U M) (b : Tb n' m' V N) (h1 : n ≤ 100) (h2 : n' ≤ 100) (h3 : m ≤ 1000) (h4 : m' ≤ 1000) :
    Calls Tryd.prog 20 #[av, bv] w fun e w' => ∃ v', e = .returned v' ∧ TabQ w.heap.size U (minusQ (goneQ U V N) M) v' w' ∧ Ext w w' := by
  obtain ⟨x, y, rfl, ka⟩ := tabQ_tab ha
  obtain ⟨x', y', rfl, kb⟩ := tabQ_tab hb
  have hx := tb_rows a
  have hy := tb_rows b
  have hv := a.vars
  have hv' := b.vars
  refine (minus_any x y x' y' U V (rowsD U M) (rowsD V N) w ka kb hT (by omega) (by omega) (by omega) (by omega) (isQ_tiny a.q) (isQ_tiny b.q) (fun y h => by rw [hx.1 y h]; omega) (fun y h => by rw [hy.1 y h]; omega)).mono ?_
  rintro e w' ⟨vv, rv, rfl, how, hE⟩
  have e1 : minusN U V (rowsD U M) (rowsD V N) = rowsD U (minusQ (goneQ U V N) M) := by
    unfold minusN goneQ
    by_cases hc : U = V
    · subst hc
      rw [if_pos rfl, if_pos rfl]; exact minus_same a.q.ok b.q.ok
    · rw [if_neg hc, if_neg hc]; exact minus_none rfl
  rw [e1] at how
  exact ⟨_, rfl, ⟨vv, rv, rfl, how⟩, hE⟩
theorem rminusT {n m n' m' : Nat} (av bv : Value) {U V : List ByteArray} {M N : List (List VarN)} (w : World) (ha : TD w av U M) (hb : TD w bv V N) (a : Tb n m U M) (b : Tb n' m' V N) (h1 : n ≤ 100) (h2 : n' ≤ 100) (h3 : m ≤ 300) (h4 : m' ≤ 300) :
    Calls Tryd.prog 19 #[av, bv] w fun e w' => ∃ v', e = .returned v' ∧ TD w' v' U (minusQ (goneQ U V N) M) ∧ Ext w w' := by
  have ha' := ha
  have hb' := hb
  obtain ⟨x, y, rfl, -, -⟩ := ha
  obtain ⟨x', y', rfl, -, -⟩ := hb
  have hv := a.vars
  have hr := a.rows
  have hv' := b.vars
  have hr' := b.rows
  refine (rminus_any x y x' y' U V M N w ha' hb' (by omega) (by omega) (by omega) (by omega) (fun r h => by have := a.len r h; omega) (fun r h => by have := b.len r h; omega) (goneQ U V N) ?_).mono ?_
  · unfold goneQ
    by_cases hc : U = V
    · exact .inl ⟨hc, by rw [if_pos hc]⟩
    · exact .inr ⟨hc, by rw [if_neg hc]⟩
  rintro e w' ⟨vv, rv, rfl, hto, hE⟩
  exact ⟨_, rfl, hto, hE⟩
theorem gone_self (U : List ByteArray) (N : List (List VarN)) : goneQ U U N = N := if_pos rfl
theorem minusTS {n m n' m' H H' : Nat} (av bv : Value) {U : List ByteArray} {M N : List (List VarN)} (w : World) (ha : TabQ H U M av w) (hb : TabQ H' U N bv w) (hT : TabP w) (a : Tb n m U M) (b : Tb n' m' U N) (h1 : n ≤ 100) (h2 : n' ≤ 100) (h3 : m ≤ 1000) (h4 : m' ≤ 1000) :
    Calls Tryd.prog 20 #[av, bv] w fun e w' => ∃ v', e = .returned v' ∧ TabQ w.heap.size U (minusQ N M) v' w' ∧ Ext w w' := by
  have h := minusTQ av bv w ha hb hT a b h1 h2 h3 h4
  rwa [gone_self] at h
theorem rminusS {n m n' m' : Nat} (av bv : Value) {U : List ByteArray} {M N : List (List VarN)} (w : World) (ha : TD w av U M) (hb : TD w bv U N) (a : Tb n m U M) (b : Tb n' m' U N) (h1 : n ≤ 100) (h2 : n' ≤ 100) (h3 : m ≤ 300) (h4 : m' ≤ 300) :
    Calls Tryd.prog 19 #[av, bv] w fun e w' => ∃ v', e = .returned v' ∧ TD w' v' U (minusQ N M) ∧ Ext w w' := by
  have h := rminusT av bv w ha hb a b h1 h2 h3 h4
  rwa [gone_self] at h
/-- both are the same just if neither has more -/
theorem same_minus {U : List ByteArray} {M N : List (List VarN)} (hM : IsQ U M) (hN : IsQ U N) : sameB U U (rowsD U M) (rowsD U N) = decide ((minusQ N M).length + (minusQ M N).length = 0) := by
  have a := minus_nil (R := rowsD U M) (S := rowsD U N)
  have b := minus_nil (R := rowsD U N) (S := rowsD U M)
  rw [minus_same hM.ok hN.ok] at a
  rw [minus_same hN.ok hM.ok] at b
  have key : ∀ L : List (List VarN), rowsD U L = [] ↔ L.length = 0 := fun L => by rw [← List.length_eq_zero_iff, rowsD_len]
  rw [key] at a b
  rw [Bool.eq_iff_iff, same_iff, decide_eq_true_iff]
  constructor
  · rintro ⟨-, h⟩
    have h1 := a.2 (fun x => Nat.le_of_eq (h.count_eq x))
    have h2 := b.2 (fun x => Nat.le_of_eq (h.count_eq x).symm)
    omega
  · intro h
    have h1 := a.1 (by omega)
    have h2 := b.1 (by omega)
    exact ⟨rfl, List.perm_iff_count.2 (fun x => Nat.le_antisymm (h1 x) (h2 x))⟩
theorem same_self (U : List ByteArray) (R : List (List Int)) : sameB U U R R = true := same_iff.2 ⟨rfl, List.Perm.refl _⟩
theorem set_self2 (U : List ByteArray) (hU : RiseS U) : setS (U ++ U) = U := rise_unique (rise_setS _) hU (fun x => by simp [mem_setS])
theorem same_none {U : List ByteArray} {M : List (List VarN)} (hU : RiseS U) : sameB U (setS (U ++ U)) (rowsD U M) (rowsD (setS (U ++ U)) (M ++ [])) = true := by
  rw [set_self2 U hU, List.append_nil]; exact same_self U _
theorem few_mix {xs ys : List Nat} {rs ss : List (List Nat)} (h : true = fewB xs rs) (k : true = fewB ys ss) : fewB xs ss = true := by
  have a := few_bounds h.symm
  have b := few_bounds k.symm
  unfold fewB
  simp only [Bool.and_eq_true, decide_eq_true_eq, List.all_eq_true]
  exact ⟨b.2.2, b.2.1, a.1⟩
theorem rawV_mix {w : World} {a b a' b' : Value} {xs ys : List Nat} {rs ss : List (List Nat)} (h : RawV w (.agg #[a, b]) xs rs) (k : RawV w (.agg #[a', b']) ys ss) : RawV w (.agg #[a, b']) xs ss := by
  obtain ⟨p, q, e, h1, -⟩ := h
  obtain ⟨p', q', e', -, h2⟩ := k
  simp only [Value.agg.injEq, Array.mk.injEq, List.cons.injEq, and_true] at e e'
  obtain ⟨rfl, rfl⟩ := e
  obtain ⟨rfl, rfl⟩ := e'
  exact ⟨_, _, rfl, h1, h2⟩
theorem x0T {H : Nat} (av : Value) {U : List ByteArray} {M : List (List VarN)} (w : World) (ha : TabQ H U M av w) (h1 : U.length ≤ 100) :
    Calls Tryd.prog 22 #[av] w fun e w' => ∃ v', e = .returned v' ∧ rowE elS w' v' U ∧ Ext w w' := by
  obtain ⟨A, c, B, d, rfl, how⟩ := tabM_form ha
  have HO := Lib.hid how.1.1
  clear ha how
  go_enter Tryd.func22, Tryd.ntmps22
  go_wp2_with (at_builtin; refine halt_here ?_)
  refine go_on ?_
  have hnew : ((w.alloc (.cells #[.slice A U.length c, .slice B M.length d] 31)).alloc (.cells #[] 9)).heap[w.heap.size + 1]? = some (.cells #[] 9 (0, 0)) := by
    have h := heap_alloc_new (w.alloc (.cells #[.slice A U.length c, .slice B M.length d] 31)) (.cells #[] 9)
    rwa [World.size_alloc] at h
  refine wpList_append rfl (.tmp 3) (.tmp 5) rfl _ _ rfl rfl (fun v' w' => Ext ((w.alloc (.cells #[.slice A U.length c, .slice B M.length d] 31)).alloc (.cells #[] 9)) w' ∧ rowF elS w.heap.size U v' w') (append_copy tpS _ w.heap.size _ _ U _ ⟨w.heap.size + 1, rfl, Nat.le_succ _, hnew⟩ (srcOf_ext (ext_alloc (ext_alloc (ext_refl _) _) _) (srcOf_row HO.out)) (by omega)) ?_
  rintro v5 w5 ⟨hE5, hR5⟩
  have HE5 := Lib.hid (ext_trans (ext_alloc (ext_alloc (ext_refl w) _) _) hE5)
  have HR5 := Lib.hid hR5.1
  clear hE5 hR5
  go_wp2
  refine bodyPost_ret (results_tmp rfl _ _ _) rfl ?_
  exact ⟨_, rfl, HR5.out, HE5.out⟩
theorem ofNT (nv : Value) {L : List ByteArray} (w : World) (hn : rowE elS w nv L) (hr : RiseS L) (hm : L.length ≤ 1000) :
    Calls Tryd.prog 21 #[nv, .slice none 0 0] w fun e w' => ∃ v', e = .returned v' ∧ TabQ w.heap.size L [] v' w' ∧ Ext w w' := by
  refine (of_any nv (.slice none 0 0) L [] w (rdS_row hn) ⟨none, 0, rfl, Nat.le_refl _, fun h => absurd rfl h⟩ (by omega) (by simp) (fun x hx => by cases hx)).mono ?_
  rintro e w' ⟨vv, rv, rfl, how, hE⟩
  rw [setS_self hr] at how
  exact ⟨_, rfl, ⟨vv, rv, rfl, how⟩, hE⟩
theorem tb_none {n m : Nat} {U : List ByteArray} {M : List (List VarN)} (a : Tb n m U M) : Tb n 0 U [] := tb_of ⟨a.q.rise, (fun r hr => by cases hr), (fun r hr => by cases hr)⟩ a.vars (by simp)
def CellT (H : Nat) (v : Value) (w : World) : Prop := ∃ g, v = .pointer (some ⟨g, 0, none⟩) ∧ H ≤ g ∧ w.heap[g]? = some (.cells #[.slice none 0 0, .slice none 0 0] 34 (0, 0))
theorem cellT_ext {H : Nat} (v : Value) (w w' : World) (hE : Ext w w') (h : CellT H v w) : CellT H v w' := by
  obtain ⟨g, e, h1, h2⟩ := h
  exact ⟨g, e, h1, (ext_block hE (block_lt h2)).trans h2⟩
end Go.Proofs.YtniggdaakiofeaaDoor
