/- SolutionNevers: joined from the left on a condition that never holds a table's rows come by themselves; on one that always does, with what is compatible. Condition: the listed tables of Go's library start as its text lays them (tied by the card). -/
import Derived.Test.YtniggdaakiofeaaDoorSu
import Derived.Test.YtniggdaakiofeaaDoorYd
import Derived.Test.YtniggdaakiofeaaDoorCards
import Derived.ChangeOld
import Derived.Below
import Derived.OpenShut
import Derived.Stop.Joined
import Derived.Lib.SmallJoins
import Derived.Test.YtniggdaakiofeaaDoorMi
import Derived.Test.YtniggdaakiofeaaDoorTf
namespace Go.Proofs.YtniggdaakiofeaaDoor
open Go Go.RowKit Go.Sort
set_option maxHeartbeats 1000000
/- of this seat alone: 80 -/

/-- a row with what is compatible, or by itself -/
def awayE (N : List (List VarN)) (r : List VarN) : List (List VarN) := if (N.filter (compD r)).length = 0 then [r] else (N.filter (compD r)).map (joinD r)
def awayQ (M N : List (List VarN)) : List (List VarN) := M.flatMap (awayE N)
def loneB (N : List (List VarN)) (r : List VarN) : Bool := decide ((N.filter (compD r)).length = 0)
theorem never_same {U V : List ByteArray} {M N : List (List VarN)} (hM : ∀ r ∈ M, okR U r) : leftN (fun _ => false) U V (rowsD U M) (rowsD V N) = rowsD (setS (U ++ V)) M := by
  have h1 : leftN (fun _ => false) U V (rowsD U M) (rowsD V N) = asN (setS (U ++ V)) U (rowsD U M) := by
    unfold leftN asN
    rw [List.map_eq_flatMap]
    refine flatMap_congrM (fun x _ => ?_)
    simp [leftG, leftJ]
  rw [h1, asN_D hM]
theorem keepG_count {α : Type} [DecidableEq α] (okf : Nat → Bool) (M : List α) (x : α) (n : Nat) (h : ∀ i, M[i]? = some x → okf i = decide (n ≤ (M.take i).count x)) : ∀ j, j ≤ M.length → (keepG okf M j).count x = (M.take j).count x - n
  | 0, _ => by simp [keepG]
  | j + 1, hj => by
    obtain ⟨y, hy⟩ : ∃ y, M[j]? = some y := ⟨_, List.getElem?_eq_getElem (by omega)⟩
    have ih := keepG_count okf M x n h j (by omega)
    have e : (M.take (j + 1)).count x = (M.take j).count x + if y = x then 1 else 0 := by
      rw [List.take_add_one, hy, Option.toList_some, List.count_append, List.count_singleton]
      congr 1
      simp
    rw [e]
    by_cases hyx : y = x
    · subst hyx
      have ho := h j hy
      by_cases hn : n ≤ (M.take j).count y
      · rw [decide_eq_true hn] at ho
        rw [keepG_yes hy ho, List.count_append, ih]
        simp
        omega
      · rw [decide_eq_false hn] at ho
        rw [keepG_no ho, ih]
        simp
        omega
    · rw [if_neg hyx]
      cases ho : okf j
      · rw [keepG_no ho, ih]; simp
      · rw [keepG_yes hy ho, List.count_append, ih]
        simp [hyx]
theorem cnt_count (M : List (List VarN)) (x : List VarN) : cnt M x = @List.count _ instBEqOfDecidableEq x M := by
  unfold cnt List.count
  refine List.countP_congr (fun y _ => ?_)
  exact Iff.rfl
theorem minus_count (N M : List (List VarN)) (x : List VarN) : cnt (minusQ N M) x = cnt M x - cnt N x := by
  have h := keepG_count (okQ N M) M x (cnt N x) (fun i hi => by
    unfold okQ
    rw [List.getD_eq_getElem?_getD, hi, Option.getD_some, ← cnt_count]) M.length (Nat.le_refl _)
  rw [List.take_length, ← cnt_count, ← cnt_count] at h
  exact h
theorem perm_cnt {M N : List (List VarN)} (h : ∀ x, cnt M x = cnt N x) : M.Perm N := by
  refine (@List.perm_iff_count _ instBEqOfDecidableEq _ _ _).2 (fun x => ?_)
  rw [← cnt_count, ← cnt_count]
  exact h x
theorem cnt_perm {M N : List (List VarN)} (h : M.Perm N) (x : List VarN) : cnt M x = cnt N x := h.countP_eq _
theorem cnt_two (M N : List (List VarN)) (x : List VarN) : cnt (M ++ N) x = cnt M x + cnt N x := List.countP_append
theorem away_parts (N : List (List VarN)) : ∀ M : List (List VarN), (awayQ M N).Perm (joinQ M N ++ M.filter (loneB N))
  | [] => by simp [awayQ, joinQ]
  | r :: M => by
    have ih := away_parts N M
    have e1 : awayQ (r :: M) N = awayE N r ++ awayQ M N := by simp [awayQ]
    have e2 : joinQ (r :: M) N = (N.filter (compD r)).map (joinD r) ++ joinQ M N := by simp [joinQ]
    rw [e1, e2]
    by_cases hl : (N.filter (compD r)).length = 0
    · have h0 : N.filter (compD r) = [] := List.eq_nil_of_length_eq_zero hl
      have hlone : loneB N r = true := by simp only [loneB, decide_eq_true_eq]; exact hl
      rw [List.filter_cons_of_pos hlone, awayE, if_pos hl, h0]
      simp only [List.map_nil, List.nil_append, List.singleton_append]
      exact (List.Perm.cons r ih).trans List.perm_middle.symm
    · have hlone : ¬ loneB N r = true := by simp only [loneB, decide_eq_true_eq]; exact hl
      rw [List.filter_cons_of_neg hlone, awayE, if_neg hl, List.append_assoc]
      exact ih.append_left _
theorem away_minus (M N : List (List VarN)) : (minusQ (joinQ M N) (awayQ M N)).Perm (M.filter (loneB N)) := by
  refine perm_cnt (fun x => ?_)
  rw [minus_count, cnt_perm (away_parts N M) x, cnt_two]
  omega
theorem loneRow {U V : List ByteArray} {r : List VarN} (h : okR U r) : rowOf (setS (U ++ V)) (valN U (rowD U r)) = rowD (setS (U ++ V)) r := by
  have e := asN_D (W := setS (U ++ V)) (U := U) (M := [r]) (fun x hx => by rw [List.mem_singleton.1 hx]; exact h)
  simpa [asN, rowsD] using e
theorem always_same {U V : List ByteArray} {M N : List (List VarN)} (hM : ∀ r ∈ M, okR U r) (hN : ∀ s ∈ N, okR V s) : leftN (fun _ => true) U V (rowsD U M) (rowsD V N) = rowsD (setS (U ++ V)) (awayQ M N) := by
  unfold leftN awayQ rowsD
  rw [List.flatMap_map, List.map_flatMap]
  refine flatMap_congrM (fun r hr => ?_)
  have hj : leftJ (fun _ => true) U V (N.map (rowD V)) (rowD U r) = ((N.filter (compD r)).map (joinD r)).map (rowD (setS (U ++ V))) := by
    unfold leftJ
    rw [List.filter_eq_self.2 (fun _ _ => rfl), List.filter_map, List.map_map, List.map_map]
    have e : N.filter (compB U V (rowD U r) ∘ rowD V) = N.filter (compD r) := List.filter_congr (fun s hs => comp_same (hM r hr) (hN s hs))
    rw [e]
    refine List.map_congr_left (fun s hs => ?_)
    obtain ⟨h1, h2⟩ := List.mem_filter.1 hs
    exact join_same (hM r hr) (hN s h1) h2
  unfold leftG awayE
  rw [hj, List.length_map, List.length_map]
  split
  · rw [loneRow (hM r hr)]; rfl
  · rfl
theorem away_len (M N : List (List VarN)) : (awayQ M N).length ≤ M.length * N.length + M.length := by
  rw [(away_parts N M).length_eq, List.length_append]
  exact Nat.add_le_add (joinQ_len M N) (List.length_filter_le ..)
theorem isQ_away {U V : List ByteArray} {M N : List (List VarN)} (hM : IsQ U M) (hN : IsQ V N) : IsQ (setS (U ++ V)) (awayQ M N) := by
  have hj := isQ_join hM hN
  have hb := isQ_both hM hN
  have hm : ∀ r ∈ awayQ M N, r ∈ joinQ M N ∨ r ∈ M := fun r hr => by
    have h := (away_parts N M).subset hr
    rcases List.mem_append.1 h with h | h
    · exact .inl h
    · exact .inr (List.mem_filter.1 h).1
  exact ⟨rise_setS _, fun r hr => (hm r hr).elim (hj.ok r) (fun h => hb.ok r (List.mem_append.2 (.inl h))), fun r hr => (hm r hr).elim (hj.tiny r) (fun h => hb.tiny r (List.mem_append.2 (.inl h)))⟩
/-- a row of the joined vars: is there nothing that it goes with -/
def loneR (W V : List ByteArray) (S : List (List Int)) (x : List Int) : Bool := decide ((joinN W V [x] S).length = 0)
theorem lone_row {W V : List ByteArray} {N : List (List VarN)} {r : List VarN} (h : okR W r) (hN : ∀ s ∈ N, okR V s) : loneR W V (rowsD V N) (rowD W r) = loneB N r := by
  have e := joinN_D (U := W) (V := V) (M := [r]) (N := N) (fun x hx => by rw [List.mem_singleton.1 hx]; exact h) hN
  unfold loneR loneB
  rw [show [rowD W r] = rowsD W [r] from rfl, e, rowsD_len]
  simp [joinQ]
theorem lone_join {U V : List ByteArray} {M N : List (List VarN)} (hM : IsQ U M) (hN : IsQ V N) : ∀ x ∈ joinQ M N, loneB N x = false := fun x hx => by
  obtain ⟨r, hr, s, hs, hc, rfl⟩ := joinQ_mem hx
  unfold loneB
  rw [decide_eq_false_iff_not]
  intro h0
  have hnil := List.eq_nil_of_length_eq_zero h0
  have : s ∈ N.filter (compD (joinD r s)) := List.mem_filter.2 ⟨hs, by
    obtain ⟨h1, h2, -⟩ := joinD_spec s (hM.ok r hr).1 (hN.ok s hs).1
    refine (compD_iff h1).2 (fun u _ hsu => ?_)
    rw [h2]
    split
    · rename_i hru
      exact (compD_iff (hM.ok r hr).1).1 hc u hru hsu
    · rfl⟩
  rw [hnil] at this
  cases this
theorem lone_away {U V : List ByteArray} {M N : List (List VarN)} (hM : IsQ U M) (hN : IsQ V N) : ((awayQ M N).filter (loneB N)).Perm (M.filter (loneB N)) := by
  refine ((away_parts N M).filter _).trans ?_
  rw [List.filter_append, List.filter_eq_nil_iff.2 (fun x hx => by rw [lone_join hM hN x hx]; simp), List.filter_filter]
  simp
theorem lone_rows {W V : List ByteArray} {A N : List (List VarN)} (hA : ∀ r ∈ A, okR W r) (hN : ∀ s ∈ N, okR V s) : (rowsD W A).filter (loneR W V (rowsD V N)) = rowsD W (A.filter (loneB N)) := by
  unfold rowsD
  rw [List.filter_map]
  congr 1
  exact List.filter_congr (fun r hr => lone_row (hA r hr) hN)
theorem nevers_same {U V : List ByteArray} {M N : List (List VarN)} (hM : IsQ U M) (hN : IsQ V N) (W : List ByteArray) : sameB W W (rowsD W (minusQ (joinQ M N) (awayQ M N))) (rowsD W ((awayQ M N).filter (loneB N))) = true :=
  same_iff.2 ⟨rfl, perm_rows ((away_minus M N).trans (lone_away hM hN).symm)⟩
end Go.Proofs.YtniggdaakiofeaaDoor
namespace Go.Proofs.YtniggdaakiofeaaDoor
open Go Go.RowKit Go.Sort
set_option maxHeartbeats 1000000
/- of this seat alone: 80 -/

theorem egNv1 (args : Array Value) (w : World) : (callFunc 24 args).run Tryd.prog w = .ok (.enter 24 args) w := enter_fn Tryd.func24 (by kernel_rfl) rfl args w
theorem egNv2 (args : Array Value) (w : World) : (callFunc 25 args).run Tryd.prog w = .ok (.enter 25 args) w := enter_fn Tryd.func25 (by kernel_rfl) rfl args w
theorem egNv3 (args : Array Value) (w : World) : (callFunc 28 args).run Tryd.prog w = .ok (.enter 28 args) w := enter_fn Tryd.func28 (by kernel_rfl) rfl args w
theorem no_any (tv xv : Value) (V : List ByteArray) (R : List (List Int)) (w : World) (ht : TabV w tv V R) : Calls Tryd.prog 24 #[tv, xv] w fun e w' => e = .returned (.bool false) ∧ Ext w w' := by
  obtain ⟨vv, rv, rfl, -, -⟩ := ht
  go_enter Tryd.func24, Tryd.ntmps24
  go_wp2
  refine bodyPost_ret (results_tmp rfl _ _ _) rfl ?_
  exact ⟨rfl, ext_alloc (ext_refl _) _⟩
theorem yes_any (tv xv : Value) (V : List ByteArray) (R : List (List Int)) (w : World) (ht : TabV w tv V R) : Calls Tryd.prog 25 #[tv, xv] w fun e w' => e = .returned (.bool true) ∧ Ext w w' := by
  obtain ⟨vv, rv, rfl, -, -⟩ := ht
  go_enter Tryd.func25, Tryd.ntmps25
  go_wp2
  refine bodyPost_ret (results_tmp rfl _ _ _) rfl ?_
  exact ⟨rfl, ext_alloc (ext_refl _) _⟩
theorem neverT {n m n' m' H H' : Nat} (av bv : Value) {U V : List ByteArray} {M N : List (List VarN)} (w : World) (ha : TabQ H U M av w) (hb : TabQ H' V N bv w) (a : Tb n m U M) (b : Tb n' m' V N) (h1 : n ≤ 100) (h2 : n' ≤ 100) (h3 : m ≤ 300) (h4 : m' ≤ 300) :
    Calls Tryd.prog 23 #[av, bv, .func (.func 24) #[] #[]] w fun e w' => ∃ v', e = .returned v' ∧ TabQ w.heap.size (setS (U ++ V)) M v' w' ∧ Ext w w' := by
  obtain ⟨x, y, rfl, ka⟩ := tabQ_tab ha
  obtain ⟨x', y', rfl, kb⟩ := tabQ_tab hb
  have hx := tb_rows a
  have hy := tb_rows b
  have hv := a.vars
  have hv' := b.vars
  have hm := Nat.mul_le_mul (Nat.le_trans hx.2 h3) (Nat.succ_le_succ (Nat.le_trans hy.2 h4))
  refine (leftjoin_any _ #[] egNv1 (fun _ => false) x y x' y' U V (rowsD U M) (rowsD V N) w ka kb a.q.rise b.q.rise (by omega) (by omega) hx.1 hy.1 (by omega) (by omega) (by simp only [Nat.succ_eq_add_one] at hm; omega) (fun _ => True) (fun _ _ _ _ => trivial) (fun T z tv xv w1 _ _ _ _ _ ht _ => no_any tv xv _ T w1 ht)).mono ?_
  rintro e w' ⟨vv, rv, rfl, how, hE⟩
  rw [never_same a.q.ok] at how
  exact ⟨_, rfl, ⟨vv, rv, rfl, how⟩, hE⟩
theorem alwaysT {n m n' m' H H' : Nat} (av bv : Value) {U V : List ByteArray} {M N : List (List VarN)} (w : World) (ha : TabQ H U M av w) (hb : TabQ H' V N bv w) (a : Tb n m U M) (b : Tb n' m' V N) (h1 : n ≤ 100) (h2 : n' ≤ 100) (h3 : m ≤ 300) (h4 : m' ≤ 300) :
    Calls Tryd.prog 23 #[av, bv, .func (.func 25) #[] #[]] w fun e w' => ∃ v', e = .returned v' ∧ TabQ w.heap.size (setS (U ++ V)) (awayQ M N) v' w' ∧ Ext w w' := by
  obtain ⟨x, y, rfl, ka⟩ := tabQ_tab ha
  obtain ⟨x', y', rfl, kb⟩ := tabQ_tab hb
  have hx := tb_rows a
  have hy := tb_rows b
  have hv := a.vars
  have hv' := b.vars
  have hm := Nat.mul_le_mul (Nat.le_trans hx.2 h3) (Nat.succ_le_succ (Nat.le_trans hy.2 h4))
  refine (leftjoin_any _ #[] egNv2 (fun _ => true) x y x' y' U V (rowsD U M) (rowsD V N) w ka kb a.q.rise b.q.rise (by omega) (by omega) hx.1 hy.1 (by omega) (by omega) (by simp only [Nat.succ_eq_add_one] at hm; omega) (fun _ => True) (fun _ _ _ _ => trivial) (fun T z tv xv w1 _ _ _ _ _ ht _ => yes_any tv xv _ T w1 ht)).mono ?_
  rintro e w' ⟨vv, rv, rfl, how, hE⟩
  rw [always_same a.q.ok b.q.ok] at how
  exact ⟨_, rfl, ⟨vv, rv, rfl, how⟩, hE⟩
theorem rdW_new {w : World} {xv : Value} {x : List Int} (h : RdI w xv x) : RdW (w.alloc (.cells #[xv] 41)) (.slice (some ⟨w.heap.size, 0, none⟩) 1 1) [x] := by
  have hn := heap_alloc_new w (.cells #[xv] 41)
  refine ⟨some ⟨w.heap.size, 0, none⟩, 1, rfl, Nat.le_refl _, fun _ => ⟨w.heap.size, 0, rfl, block_lt hn, fun i y hy => ?_⟩⟩
  cases i with
  | zero =>
    simp only [List.getElem?_cons_zero, Option.some.injEq] at hy
    subst hy
    exact ⟨xv, block_cell hn 0, rdI_ext h (ext_alloc (ext_refl _) _)⟩
  | succ i => simp at hy
set_option maxRecDepth 100000 in
theorem lone_any (tv xv : Value) (pb : Nat) (B : Option Addr) (n c : Nat) (rv : Value) (W V : List ByteArray) (T S : List (List Int)) (x : List Int) (w : World) (ht : TabV w tv W T) (hx : RdI w xv x) (hp : w.heap[pb]? = some (.cells #[.slice B n c, rv] 31 (0, 0))) (hb : TabV w (.agg #[.slice B n c, rv]) V S)
    (hW : RiseS W) (hV : RiseS V) (h1 : W.length ≤ 1000) (h2 : V.length ≤ 1000) (hl : x.length = W.length) (hS : ∀ y ∈ S, y.length = V.length) (h3 : S.length ≤ 1000) :
    Calls Tryd.prog 28 #[tv, xv, .pointer (some ⟨pb, 0, none⟩)] w fun e w' => e = .returned (.bool (loneR W V S x)) ∧ Ext w w' := by
  obtain ⟨tvv, trv, rfl, t1, t2⟩ := ht
  obtain ⟨A, ca, rfl⟩ := rdS_form t1
  obtain ⟨X, cx, rfl⟩ := rdI_form hx
  have HT := Lib.hid t1
  have HX := Lib.hid hx
  have HB := Lib.hid hb
  have p0 : w.cell? ⟨pb, 0, none⟩ = some (.slice B n c) := block_cell hp 0
  have p1 : w.cell? ⟨pb, 1, none⟩ = some rv := block_cell hp 1
  have lb := block_lt hp
  have HL := Lib.hid hl
  clear t1 t2 hx hb hp hl
  go_enter Tryd.func28, Tryd.ntmps28
  go_wp2_with fail
  have hE1 : Ext w (w.alloc (.cells #[.slice A W.length ca, trv] 31)) := ext_alloc (ext_refl _) _
  have hrw := rdW_new (rdI_ext HX.out hE1)
  rw [World.size_alloc] at hrw
  have hE2 : Ext w ((w.alloc (.cells #[.slice A W.length ca, trv] 31)).alloc (.cells #[.slice X x.length cx] 41)) := ext_trans hE1 (ext_alloc (ext_refl _) _)
  refine (join_any _ _ _ _ W V [x] S _ ⟨_, _, rfl, rdS_ext HT.out hE2, hrw⟩ (tabV_ext HB.out hE2) hW hV (by omega) (by omega) (fun y hy => by rw [List.mem_singleton.1 hy]; exact HL.out) hS (by simp) (by omega) (by simp; omega)).mono ?_
  rintro e w' ⟨vv, rv', rfl, how, hE⟩
  obtain ⟨C, d, rfl⟩ := rdW_form (own_rdW how)
  have HE := Lib.hid (ext_trans hE2 hE)
  obtain ⟨k, hk⟩ : ∃ k, k = (joinN W V [x] S).length := ⟨_, rfl⟩
  rw [← hk]
  have DK := Lib.hid hk
  clear how hE hE1 hE2 hrw hk
  have hf : ∀ w'' : World, (Instr.field 31 (.agg #[vv, .slice C k d]) 1).run Tryd.prog w'' = .ok (.slice C k d) w'' := fun _ => rfl
  go_wp2
  refine bodyPost_ret (results_tmp rfl _ _ _) rfl ?_
  exact ⟨by unfold loneR; rw [← DK.out]; simp; rw [Bool.eq_iff_iff, beq_iff_eq, decide_eq_true_iff]; omega, HE.out⟩
theorem loneT {n m n' m' H H' : Nat} (av : Value) (pb : Nat) (B : Option Addr) (nB c : Nat) (rv : Value) {W V : List ByteArray} {A N : List (List VarN)} (w : World) (ha : TabQ H W A av w) (hp : w.heap[pb]? = some (.cells #[.slice B nB c, rv] 31 (0, 0))) (hb : TabQ H' V N (.agg #[.slice B nB c, rv]) w) (a : Tb n m W A) (b : Tb n' m' V N) (h1 : n ≤ 100) (h2 : n' ≤ 100) (h3 : m ≤ 300) (h4 : m' ≤ 300) :
    Calls Tryd.prog 27 #[av, .func (.func 28) #[] #[.pointer (some ⟨pb, 0, none⟩)]] w fun e w' => ∃ v', e = .returned v' ∧ TabQ w.heap.size W (A.filter (loneB N)) v' w' ∧ Ext w w' := by
  obtain ⟨x, y, rfl, ka⟩ := tabQ_tab ha
  obtain ⟨x', y', e0, kb⟩ := tabQ_tab hb
  rw [← e0] at kb
  have hx := tb_rows a
  have hy := tb_rows b
  have hv := a.vars
  have hv' := b.vars
  refine (filter_pure _ #[.pointer (some ⟨pb, 0, none⟩)] egNv3 (loneR W V (rowsD V N)) x y W (rowsD W A) w ka (by omega) (by omega) (fun y h => by rw [hx.1 y h]; omega) (fun z zv w1 hz hE htv hri => lone_any _ zv pb B nB c rv W V (rowsD W A) (rowsD V N) z w1 htv hri ((ext_block hE (block_lt hp)).trans hp) (tabV_ext kb hE) a.q.rise b.q.rise (by omega) (by omega) (hx.1 z hz) hy.1 (by omega))).mono ?_
  rintro e w' ⟨vv, rv', rfl, how, hE⟩
  rw [lone_rows a.q.ok b.q.ok] at how
  exact ⟨_, rfl, ⟨vv, rv', rfl, how⟩, hE⟩
theorem tb_away {n m n' m' : Nat} {U V : List ByteArray} {M N : List (List VarN)} (a : Tb n m U M) (b : Tb n' m' V N) : Tb (n + n') (m * m' + m) (setS (U ++ V)) (awayQ M N) :=
  tb_of (isQ_away a.q b.q) (by have := setS_length (U ++ V); rw [List.length_append] at this; have := a.vars; have := b.vars; omega) (Nat.le_trans (away_len M N) (Nat.add_le_add (Nat.mul_le_mul a.rows b.rows) a.rows))
theorem tb_filter {n m : Nat} {U : List ByteArray} {M : List (List VarN)} (a : Tb n m U M) (p : List VarN → Bool) : Tb n m U (M.filter p) :=
  tb_of ⟨a.q.rise, fun r hr => a.q.ok r (List.mem_filter.1 hr).1, fun r hr => a.q.tiny r (List.mem_filter.1 hr).1⟩ a.vars (Nat.le_trans (List.length_filter_le ..) a.rows)
theorem tb_wide {n m n' m' : Nat} {U V : List ByteArray} {M N : List (List VarN)} (a : Tb n m U M) (b : Tb n' m' V N) : Tb (n + n') m (setS (U ++ V)) M :=
  tb_of ⟨rise_setS _, fun r hr => (isQ_both a.q b.q).ok r (List.mem_append.2 (.inl hr)), a.q.tiny⟩ (by have := setS_length (U ++ V); rw [List.length_append] at this; have := a.vars; have := b.vars; omega) a.rows
theorem neverTS {n m n' m' H H' : Nat} (av bv : Value) {U V : List ByteArray} {M N : List (List VarN)} (w : World) (ha : TabQ H U M av w) (hb : TabQ H' V N bv w) (a : Tb n m U M) (b : Tb n' m' V N) (h1 : n ≤ 100) (h2 : n' ≤ 100) (h3 : m ≤ 300) (h4 : m' ≤ 300) (W : List ByteArray) (hW : W = setS (U ++ V)) :
    Calls Tryd.prog 23 #[av, bv, .func (.func 24) #[] #[]] w fun e w' => ∃ A c B d, e = .returned (.agg #[.slice A W.length c, .slice B M.length d]) ∧ Own w.heap.size w' (.slice A W.length c) (.slice B M.length d) W (rowsD W M) ∧ Ext w w' := by
  subst hW
  refine (neverT av bv w ha hb a b h1 h2 h3 h4).mono ?_
  rintro e w' ⟨v', rfl, h, hE⟩
  obtain ⟨A, c, B, d, rfl, how⟩ := tabM_form h
  exact ⟨A, c, B, d, rfl, how, hE⟩
theorem alwaysTS {n m n' m' H H' : Nat} (av bv : Value) {U V : List ByteArray} {M N : List (List VarN)} (w : World) (ha : TabQ H U M av w) (hb : TabQ H' V N bv w) (a : Tb n m U M) (b : Tb n' m' V N) (h1 : n ≤ 100) (h2 : n' ≤ 100) (h3 : m ≤ 300) (h4 : m' ≤ 300) (W : List ByteArray) (hW : W = setS (U ++ V)) (S : List (List VarN)) (hS : S = awayQ M N) :
    Calls Tryd.prog 23 #[av, bv, .func (.func 25) #[] #[]] w fun e w' => ∃ A c B d, e = .returned (.agg #[.slice A W.length c, .slice B S.length d]) ∧ Own w.heap.size w' (.slice A W.length c) (.slice B S.length d) W (rowsD W S) ∧ Ext w w' := by
  subst hW hS
  refine (alwaysT av bv w ha hb a b h1 h2 h3 h4).mono ?_
  rintro e w' ⟨v', rfl, h, hE⟩
  obtain ⟨A, c, B, d, rfl, how⟩ := tabM_form h
  exact ⟨A, c, B, d, rfl, how, hE⟩
theorem rjoinTS {n m n' m' : Nat} (av bv : Value) {U V : List ByteArray} {M N : List (List VarN)} (w : World) (ha : TD w av U M) (hb : TD w bv V N) (a : Tb n m U M) (b : Tb n' m' V N) (h1 : n ≤ 100) (h2 : n' ≤ 100) (h3 : m ≤ 300) (h4 : m' ≤ 300) (W : List ByteArray) (hW : W = setS (U ++ V)) (S : List (List VarN)) (hS : S = joinQ M N) :
    Calls Tryd.prog 15 #[av, bv] w fun e w' => ∃ A c B d, e = .returned (.agg #[.slice A W.length c, .slice B S.length d]) ∧ TD w' (.agg #[.slice A W.length c, .slice B S.length d]) W S ∧ Ext w w' := by
  subst hW hS
  refine (rjoinT av bv w ha hb a b h1 h2 h3 h4).mono ?_
  rintro e w' ⟨v', rfl, h, hE⟩
  obtain ⟨A, c, B, d, rfl⟩ := tDM_form h
  exact ⟨A, c, B, d, rfl, h, hE⟩
theorem bothT (v u : Value) {U V : List ByteArray} (w : World) (hv : rowE elS w v U) (hu : rowE elS w u V) (h : U.length ≤ 100 ∧ V.length ≤ 100) (W : List ByteArray) (hW : W = setS (U ++ V)) :
    Calls Tryd.prog 26 #[v, u] w fun e w' => ∃ v', e = .returned v' ∧ rowE elS w' v' W ∧ Ext w w' := by
  rw [hW]
  exact both_any v u U V w (rdS_row hv) (rdS_row hu) (by omega) (by omega)
end Go.Proofs.YtniggdaakiofeaaDoor
namespace Go.Proofs.YtniggdaakiofeaaDoor
open Go Go.RowKit Go.Sort
set_option maxHeartbeats 20000000

/- of this seat alone: 80 -/
theorem minusTE {n m n' m' H H' : Nat} (av bv : Value) {U : List ByteArray} {M N S : List (List VarN)} (w : World) (ha : TabQ H U M av w) (hb : TabQ H' U N bv w) (hT : TabP w) (hS : S = minusQ N M) (a : Tb n m U M) (b : Tb n' m' U N) (h1 : n ≤ 100) (h2 : n' ≤ 100) (h3 : m ≤ 1000) (h4 : m' ≤ 1000) :
    Calls Tryd.prog 20 #[av, bv] w fun e w' => ∃ v', e = .returned v' ∧ TabQ w.heap.size U S v' w' ∧ Ext w w' := by
  rw [hS]
  exact minusTS av bv w ha hb hT a b h1 h2 h3 h4
theorem joinTE {n m n' m' H H' : Nat} (av bv : Value) {U V W : List ByteArray} {M N S : List (List VarN)} (w : World) (ha : TabQ H U M av w) (hb : TabQ H' V N bv w) (hW : W = setS (U ++ V)) (hS : S = joinQ M N) (a : Tb n m U M) (b : Tb n' m' V N) (h1 : n ≤ 100) (h2 : n' ≤ 100) (h3 : m ≤ 1000) (h4 : m' ≤ 1000) (h5 : m * m' ≤ 100000) :
    Calls Tryd.prog 12 #[av, bv] w fun e w' => ∃ v', e = .returned v' ∧ TabQ w.heap.size W S v' w' ∧ Ext w w' := by
  rw [hW, hS]
  exact joinT av bv w ha hb a b h1 h2 h3 h4 h5
theorem away_many (N : List (List VarN)) : ∀ M : List (List VarN), M.length ≤ (awayQ M N).length
  | [] => Nat.zero_le _
  | r :: M => by
    have ih := away_many N M
    have e1 : awayQ (r :: M) N = awayE N r ++ awayQ M N := by simp [awayQ]
    rw [e1, List.length_append, List.length_cons]
    have : 1 ≤ (awayE N r).length := by
      unfold awayE
      split
      · simp
      · rw [List.length_map]; omega
    omega
theorem le_dec {m n : Nat} (h : m ≤ n) : decide ((m : Int) ≤ (n : Int)) = true := decide_eq_true (by omega)
set_option maxRecDepth 100000 in
theorem nevers_law (v0 : Value) (v1 : Value) (xs : List Nat) (rs : List (List Nat)) (ys : List Nat) (ss : List (List Nat)) (w : World) (h0 : RawV w v0 xs rs) (h1 : RawV w v1 ys ss) (l0 : xs.length ≤ maxLen) (m0 : rs.length ≤ maxLen) (n0 : ∀ r ∈ rs, r.length ≤ maxLen) (l1 : ys.length ≤ maxLen) (m1 : ss.length ≤ maxLen) (n1 : ∀ r ∈ ss, r.length ≤ maxLen) (hT : TabP w) :
    Calls Tryd.prog 6 #[v0, v1] w fun e w' => e = .returned (.bool true) ∧ Ext w w' := by
  have hml : maxLen ≤ 9223372036854775807 := by decide
  have F0 := Lib.hid (fun w' (hE : Ext w w') => few_any v0 xs rs w' (rawV_ext h0 hE) (Nat.le_trans l0 hml) (Nat.le_trans m0 hml) (fun r hr => Nat.le_trans (n0 r hr) hml))
  have HR0 := Lib.hid h0
  obtain ⟨a0, d0, rfl, p0, q0⟩ := h0
  obtain ⟨A0, c0, rfl⟩ := rdU_form p0
  obtain ⟨B0, e0, rfl⟩ := rdUU_form q0
  clear p0 q0 l0 m0 n0
  have F1 := Lib.hid (fun w' (hE : Ext w w') => few_any v1 ys ss w' (rawV_ext h1 hE) (Nat.le_trans l1 hml) (Nat.le_trans m1 hml) (fun r hr => Nat.le_trans (n1 r hr) hml))
  have HR1 := Lib.hid h1
  obtain ⟨a1, d1, rfl, p1, q1⟩ := h1
  obtain ⟨A1, c1, rfl⟩ := rdU_form p1
  obtain ⟨B1, e1, rfl⟩ := rdUU_form q1
  clear p1 q1 l1 m1 n1
  clear hml
  have HE_1 := Lib.hid (ext_refl w)
  have HTP := Lib.hid hT
  clear hT
  go_enter Tryd.func6, Tryd.ntmps6
  go_wp2_with fail
  refine (awake_any _).mono ?_
  rintro e w1 ⟨rfl, hE⟩
  obtain ⟨hE, g0, g1⟩ := ext2 hE
  have HE_2 := Lib.hid (ext_trans HE_1.out hE)
  clear HE_1
  obtain ⟨bx0, hbx0⟩ : ∃ bx0, bx0 = w.heap.size := ⟨_, rfl⟩
  obtain ⟨bx1, hbx1⟩ : ∃ bx1, bx1 = w.heap.size + 1 := ⟨_, rfl⟩
  try rw [← hbx1]
  rw [← hbx1] at g1
  try rw [← hbx0]
  rw [← hbx0] at g0
  have X0_3 := Lib.hid (show w1.heap[bx0]? = some (.cells #[.slice A0 xs.length c0, .slice B0 rs.length e0] 25 (0, 0)) from g0)
  have Sbx0 := Lib.hid hbx0
  clear g0 hbx0
  have X1_4 := Lib.hid (show w1.heap[bx1]? = some (.cells #[.slice A1 ys.length c1, .slice B1 ss.length e1] 25 (0, 0)) from g1)
  have Sbx1 := Lib.hid hbx1
  clear g1 hbx1
  clear hE
  have qX00 : w1.cell? ⟨bx0, 0, none⟩ = some (.slice A0 xs.length c0) := block_cell X0_3.out 0
  have qX01 : w1.cell? ⟨bx0, 1, none⟩ = some (.slice B0 rs.length e0) := block_cell X0_3.out 1
  have lX0 := block_lt X0_3.out
  go_wp2_with fail
  clear qX00 qX01 lX0
  refine (F0.out _ HE_2.out).mono ?_
  rintro e w2 ⟨rfl, hE⟩
  have HE_5 := Lib.hid (ext_trans HE_2.out hE)
  clear HE_2
  have X0_6 := Lib.hid ((ext_block hE (block_lt X0_3.out)).trans X0_3.out)
  clear X0_3
  have X1_7 := Lib.hid ((ext_block hE (block_lt X1_4.out)).trans X1_4.out)
  clear X1_4
  clear hE
  obtain ⟨f0, hf0⟩ : ∃ f, f = fewB xs rs := ⟨_, rfl⟩
  rw [← hf0]
  have HF0 := Lib.hid hf0
  clear hf0
  cases f0
  · skip
    go_wp2_with fail
    refine (awake_any _).mono ?_
    rintro e w3 ⟨rfl, hE⟩
    have HE_8 := Lib.hid (ext_trans HE_5.out hE)
    clear HE_5
    have X0_9 := Lib.hid ((ext_block hE (block_lt X0_6.out)).trans X0_6.out)
    clear X0_6
    have X1_10 := Lib.hid ((ext_block hE (block_lt X1_7.out)).trans X1_7.out)
    clear X1_7
    clear hE
    go_wp2
    refine bodyPost_ret (results_tmp rfl _ _ _) rfl ?_
    exact ⟨rfl, HE_8.out⟩
  have qX10 : w2.cell? ⟨bx1, 0, none⟩ = some (.slice A1 ys.length c1) := block_cell X1_7.out 0
  have qX11 : w2.cell? ⟨bx1, 1, none⟩ = some (.slice B1 ss.length e1) := block_cell X1_7.out 1
  have lX1 := block_lt X1_7.out
  go_wp2_with fail
  clear qX10 qX11 lX1
  refine (F1.out _ HE_5.out).mono ?_
  rintro e w4 ⟨rfl, hE⟩
  have HE_11 := Lib.hid (ext_trans HE_5.out hE)
  clear HE_5
  have X0_12 := Lib.hid ((ext_block hE (block_lt X0_6.out)).trans X0_6.out)
  clear X0_6
  have X1_13 := Lib.hid ((ext_block hE (block_lt X1_7.out)).trans X1_7.out)
  clear X1_7
  clear hE
  obtain ⟨f1, hf1⟩ : ∃ f, f = fewB ys ss := ⟨_, rfl⟩
  rw [← hf1]
  have HF1 := Lib.hid hf1
  clear hf1
  cases f1
  · skip
    go_wp2_with fail
    refine (awake_any _).mono ?_
    rintro e w5 ⟨rfl, hE⟩
    have HE_14 := Lib.hid (ext_trans HE_11.out hE)
    clear HE_11
    have X0_15 := Lib.hid ((ext_block hE (block_lt X0_12.out)).trans X0_12.out)
    clear X0_12
    have X1_16 := Lib.hid ((ext_block hE (block_lt X1_13.out)).trans X1_13.out)
    clear X1_13
    clear hE
    go_wp2
    refine bodyPost_ret (results_tmp rfl _ _ _) rfl ?_
    exact ⟨rfl, HE_14.out⟩
  obtain ⟨U, hU⟩ : ∃ U, U = setS (namesOf xs) := ⟨_, rfl⟩
  obtain ⟨M, hM⟩ : ∃ M, M = docT xs rs := ⟨_, rfl⟩
  have IT0 := Lib.hid (show IsT U M by rw [hU, hM]; exact isT_of HF0.out.symm)
  have DU := Lib.hid hU
  have DM := Lib.hid hM
  clear hU hM
  have qX00 : w4.cell? ⟨bx0, 0, none⟩ = some (.slice A0 xs.length c0) := block_cell X0_12.out 0
  have qX01 : w4.cell? ⟨bx0, 1, none⟩ = some (.slice B0 rs.length e0) := block_cell X0_12.out 1
  have lX0 := block_lt X0_12.out
  go_wp2_with fail
  clear qX00 qX01 lX0
  refine (build_spec _ xs rs U M _ DU.out DM.out (rawV_ext HR0.out HE_11.out) HF0.out.symm).mono ?_
  rintro e w6 ⟨P0, i0, Q0, j0, D0, k0, G0, o0, rfl, how, htd, hE⟩
  have HE_17 := Lib.hid (ext_trans HE_11.out hE)
  clear HE_11
  have X0_18 := Lib.hid ((ext_block hE (block_lt X0_12.out)).trans X0_12.out)
  clear X0_12
  have X1_19 := Lib.hid ((ext_block hE (block_lt X1_13.out)).trans X1_13.out)
  clear X1_13
  clear hE
  have bu0 : U.length ≤ 5 := IT0.out.vars
  have br0 : M.length ≤ 8 := IT0.out.rows
  have OA0_20 := Lib.hid (how)
  have TD0_21 := Lib.hid (htd)
  clear how htd
  obtain ⟨V, hV⟩ : ∃ U, U = setS (namesOf ys) := ⟨_, rfl⟩
  obtain ⟨N, hN⟩ : ∃ M, M = docT ys ss := ⟨_, rfl⟩
  have IT1 := Lib.hid (show IsT V N by rw [hV, hN]; exact isT_of HF1.out.symm)
  have DV := Lib.hid hV
  have DN := Lib.hid hN
  clear hV hN
  have qX10 : w6.cell? ⟨bx1, 0, none⟩ = some (.slice A1 ys.length c1) := block_cell X1_19.out 0
  have qX11 : w6.cell? ⟨bx1, 1, none⟩ = some (.slice B1 ss.length e1) := block_cell X1_19.out 1
  have lX1 := block_lt X1_19.out
  go_wp2_with fail
  clear qX10 qX11 lX1
  refine (build_spec _ ys ss V N _ DV.out DN.out (rawV_ext HR1.out (ext_trans HE_17.out (ext_alloc (ext_alloc (ext_refl _) _) _))) HF1.out.symm).mono ?_
  rintro e w7 ⟨P1, i1, Q1, j1, D1, k1, G1, o1, rfl, how, htd, hE⟩
  obtain ⟨hE, g0, g1⟩ := ext2 hE
  have HE_22 := Lib.hid (ext_trans HE_17.out hE)
  clear HE_17
  have X0_23 := Lib.hid ((ext_block hE (block_lt X0_18.out)).trans X0_18.out)
  clear X0_18
  have X1_24 := Lib.hid ((ext_block hE (block_lt X1_19.out)).trans X1_19.out)
  clear X1_19
  have OA0_25 := Lib.hid (own_ext OA0_20.out hE)
  clear OA0_20
  have TD0_26 := Lib.hid (tD_ext TD0_21.out hE)
  clear TD0_21
  obtain ⟨ca0, hca0⟩ : ∃ ca0, ca0 = w6.heap.size := ⟨_, rfl⟩
  obtain ⟨cm0, hcm0⟩ : ∃ cm0, cm0 = w6.heap.size + 1 := ⟨_, rfl⟩
  try rw [← hcm0]
  rw [← hcm0] at g1
  try rw [← hca0]
  rw [← hca0] at g0
  have CA0_27 := Lib.hid (show w7.heap[ca0]? = some (.cells #[.slice P0 U.length i0, .slice Q0 M.length j0] 31 (0, 0)) from g0)
  have Sca0 := Lib.hid hca0
  clear g0 hca0
  have CM0_28 := Lib.hid (show w7.heap[cm0]? = some (.cells #[.slice D0 U.length k0, .slice G0 M.length o0] 34 (0, 0)) from g1)
  have Scm0 := Lib.hid hcm0
  clear g1 hcm0
  clear hE
  have bu1 : V.length ≤ 5 := IT1.out.vars
  have br1 : N.length ≤ 8 := IT1.out.rows
  have OA1_29 := Lib.hid (how)
  have TD1_30 := Lib.hid (htd)
  clear how htd
  have TB0 := Lib.hid (tb_isT IT0.out DM.out)
  have TB1 := Lib.hid (tb_isT IT1.out DN.out)
  obtain ⟨JV, hJV⟩ : ∃ J, J = setS (U ++ V) := ⟨_, rfl⟩
  have DJV := Lib.hid (show JV = setS (U ++ V) from hJV)
  clear hJV
  obtain ⟨S, hS⟩ : ∃ J, J = awayQ M N := ⟨_, rfl⟩
  have DS := Lib.hid (show S = awayQ M N from hS)
  clear hS
  obtain ⟨J, hJ⟩ : ∃ J, J = joinQ M N := ⟨_, rfl⟩
  have DJ := Lib.hid (show J = joinQ M N from hJ)
  clear hJ
  have TBN := Lib.hid (show Tb 10 8 JV M by rw [DJV.out]; exact tb_wide TB0.out TB1.out)
  have TBW := Lib.hid (show Tb 10 72 JV S by rw [DJV.out, DS.out]; exact tb_away TB0.out TB1.out)
  have TBJ := Lib.hid (show Tb 10 64 JV J by rw [DJV.out, DJ.out]; exact tb_join TB0.out TB1.out)
  have qCA00 : w7.cell? ⟨ca0, 0, none⟩ = some (.slice P0 U.length i0) := block_cell CA0_27.out 0
  have qCA01 : w7.cell? ⟨ca0, 1, none⟩ = some (.slice Q0 M.length j0) := block_cell CA0_27.out 1
  have lCA0 := block_lt CA0_27.out
  go_wp2_with fail
  clear qCA00 qCA01 lCA0
  refine (neverTS _ _ _ ⟨_, _, rfl, own_low (own_ext OA0_25.out (ext_alloc (ext_alloc (ext_refl _) _) _)) (Nat.zero_le _)⟩ ⟨_, _, rfl, own_low (own_ext OA1_29.out (ext_alloc (ext_alloc (ext_refl _) _) _)) (Nat.zero_le _)⟩ TB0.out TB1.out (by omega) (by omega) (by omega) (by omega) JV DJV.out).mono ?_
  rintro e w8 ⟨A5, c5, B5, d5, rfl, how, hE⟩
  obtain ⟨hE, g0, g1⟩ := ext2 hE
  have HE_31 := Lib.hid (ext_trans HE_22.out hE)
  clear HE_22
  have X0_32 := Lib.hid ((ext_block hE (block_lt X0_23.out)).trans X0_23.out)
  clear X0_23
  have X1_33 := Lib.hid ((ext_block hE (block_lt X1_24.out)).trans X1_24.out)
  clear X1_24
  have OA0_34 := Lib.hid (own_ext OA0_25.out hE)
  clear OA0_25
  have TD0_35 := Lib.hid (tD_ext TD0_26.out hE)
  clear TD0_26
  have CA0_36 := Lib.hid ((ext_block hE (block_lt CA0_27.out)).trans CA0_27.out)
  clear CA0_27
  have CM0_37 := Lib.hid ((ext_block hE (block_lt CM0_28.out)).trans CM0_28.out)
  clear CM0_28
  have OA1_38 := Lib.hid (own_ext OA1_29.out hE)
  clear OA1_29
  have TD1_39 := Lib.hid (tD_ext TD1_30.out hE)
  clear TD1_30
  obtain ⟨ca1, hca1⟩ : ∃ ca1, ca1 = w7.heap.size := ⟨_, rfl⟩
  obtain ⟨cm1, hcm1⟩ : ∃ cm1, cm1 = w7.heap.size + 1 := ⟨_, rfl⟩
  try rw [← hcm1]
  rw [← hcm1] at g1
  try rw [← hca1]
  rw [← hca1] at g0
  have CA1_40 := Lib.hid (show w8.heap[ca1]? = some (.cells #[.slice P1 V.length i1, .slice Q1 N.length j1] 31 (0, 0)) from g0)
  have Sca1 := Lib.hid hca1
  clear g0 hca1
  have CM1_41 := Lib.hid (show w8.heap[cm1]? = some (.cells #[.slice D1 V.length k1, .slice G1 N.length o1] 34 (0, 0)) from g1)
  have Scm1 := Lib.hid hcm1
  clear g1 hcm1
  clear hE
  have ON_42 := Lib.hid (how)
  clear how
  have qCA00 : w8.cell? ⟨ca0, 0, none⟩ = some (.slice P0 U.length i0) := block_cell CA0_36.out 0
  have qCA01 : w8.cell? ⟨ca0, 1, none⟩ = some (.slice Q0 M.length j0) := block_cell CA0_36.out 1
  have lCA0 := block_lt CA0_36.out
  have qCA10 : w8.cell? ⟨ca1, 0, none⟩ = some (.slice P1 V.length i1) := block_cell CA1_40.out 0
  have qCA11 : w8.cell? ⟨ca1, 1, none⟩ = some (.slice Q1 N.length j1) := block_cell CA1_40.out 1
  have lCA1 := block_lt CA1_40.out
  go_wp2_with fail
  clear qCA00 qCA01 lCA0 qCA10 qCA11 lCA1
  refine (alwaysTS _ _ _ ⟨_, _, rfl, own_low (own_ext OA0_34.out (ext_alloc (ext_refl _) _)) (Nat.zero_le _)⟩ ⟨_, _, rfl, own_low (own_ext OA1_38.out (ext_alloc (ext_refl _) _)) (Nat.zero_le _)⟩ TB0.out TB1.out (by omega) (by omega) (by omega) (by omega) JV DJV.out S DS.out).mono ?_
  rintro e w9 ⟨A6, c6, B6, d6, rfl, how, hE⟩
  obtain ⟨hE, g0⟩ := ext1 hE
  have HE_43 := Lib.hid (ext_trans HE_31.out hE)
  clear HE_31
  have X0_44 := Lib.hid ((ext_block hE (block_lt X0_32.out)).trans X0_32.out)
  clear X0_32
  have X1_45 := Lib.hid ((ext_block hE (block_lt X1_33.out)).trans X1_33.out)
  clear X1_33
  have OA0_46 := Lib.hid (own_ext OA0_34.out hE)
  clear OA0_34
  have TD0_47 := Lib.hid (tD_ext TD0_35.out hE)
  clear TD0_35
  have CA0_48 := Lib.hid ((ext_block hE (block_lt CA0_36.out)).trans CA0_36.out)
  clear CA0_36
  have CM0_49 := Lib.hid ((ext_block hE (block_lt CM0_37.out)).trans CM0_37.out)
  clear CM0_37
  have OA1_50 := Lib.hid (own_ext OA1_38.out hE)
  clear OA1_38
  have TD1_51 := Lib.hid (tD_ext TD1_39.out hE)
  clear TD1_39
  have CA1_52 := Lib.hid ((ext_block hE (block_lt CA1_40.out)).trans CA1_40.out)
  clear CA1_40
  have CM1_53 := Lib.hid ((ext_block hE (block_lt CM1_41.out)).trans CM1_41.out)
  clear CM1_41
  have ON_54 := Lib.hid (own_ext ON_42.out hE)
  clear ON_42
  obtain ⟨cn, hcn⟩ : ∃ cn, cn = w8.heap.size := ⟨_, rfl⟩
  try rw [← hcn]
  rw [← hcn] at g0
  have CN_55 := Lib.hid (show w9.heap[cn]? = some (.cells #[.slice A5 JV.length c5, .slice B5 M.length d5] 31 (0, 0)) from g0)
  have Scn := Lib.hid hcn
  clear g0 hcn
  clear hE
  have OW_56 := Lib.hid (how)
  clear how
  have qCM00 : w9.cell? ⟨cm0, 0, none⟩ = some (.slice D0 U.length k0) := block_cell CM0_49.out 0
  have qCM01 : w9.cell? ⟨cm0, 1, none⟩ = some (.slice G0 M.length o0) := block_cell CM0_49.out 1
  have lCM0 := block_lt CM0_49.out
  have qCM10 : w9.cell? ⟨cm1, 0, none⟩ = some (.slice D1 V.length k1) := block_cell CM1_53.out 0
  have qCM11 : w9.cell? ⟨cm1, 1, none⟩ = some (.slice G1 N.length o1) := block_cell CM1_53.out 1
  have lCM1 := block_lt CM1_53.out
  go_wp2_with fail
  clear qCM00 qCM01 lCM0 qCM10 qCM11 lCM1
  refine (rjoinTS _ _ _ (tD_ext TD0_47.out (ext_alloc (ext_refl _) _)) (tD_ext TD1_51.out (ext_alloc (ext_refl _) _)) TB0.out TB1.out (by omega) (by omega) (by omega) (by omega) JV DJV.out J DJ.out).mono ?_
  rintro e w10 ⟨A7, c7, B7, d7, rfl, htd, hE⟩
  obtain ⟨hE, g0⟩ := ext1 hE
  have HE_57 := Lib.hid (ext_trans HE_43.out hE)
  clear HE_43
  have X0_58 := Lib.hid ((ext_block hE (block_lt X0_44.out)).trans X0_44.out)
  clear X0_44
  have X1_59 := Lib.hid ((ext_block hE (block_lt X1_45.out)).trans X1_45.out)
  clear X1_45
  have OA0_60 := Lib.hid (own_ext OA0_46.out hE)
  clear OA0_46
  have TD0_61 := Lib.hid (tD_ext TD0_47.out hE)
  clear TD0_47
  have CA0_62 := Lib.hid ((ext_block hE (block_lt CA0_48.out)).trans CA0_48.out)
  clear CA0_48
  have CM0_63 := Lib.hid ((ext_block hE (block_lt CM0_49.out)).trans CM0_49.out)
  clear CM0_49
  have OA1_64 := Lib.hid (own_ext OA1_50.out hE)
  clear OA1_50
  have TD1_65 := Lib.hid (tD_ext TD1_51.out hE)
  clear TD1_51
  have CA1_66 := Lib.hid ((ext_block hE (block_lt CA1_52.out)).trans CA1_52.out)
  clear CA1_52
  have CM1_67 := Lib.hid ((ext_block hE (block_lt CM1_53.out)).trans CM1_53.out)
  clear CM1_53
  have ON_68 := Lib.hid (own_ext ON_54.out hE)
  clear ON_54
  have CN_69 := Lib.hid ((ext_block hE (block_lt CN_55.out)).trans CN_55.out)
  clear CN_55
  have OW_70 := Lib.hid (own_ext OW_56.out hE)
  clear OW_56
  obtain ⟨cw, hcw⟩ : ∃ cw, cw = w9.heap.size := ⟨_, rfl⟩
  try rw [← hcw]
  rw [← hcw] at g0
  have CW_71 := Lib.hid (show w10.heap[cw]? = some (.cells #[.slice A6 JV.length c6, .slice B6 S.length d6] 31 (0, 0)) from g0)
  have Scw := Lib.hid hcw
  clear g0 hcw
  clear hE
  have TDJ_72 := Lib.hid (htd)
  clear htd
  go_wp2
  obtain ⟨W11, hW⟩ : ∃ W, W = w10.alloc (.cells #[.slice A7 JV.length c7, .slice B7 J.length d7] 34) := ⟨_, rfl⟩
  have hE : Ext w10 W11 := by rw [hW]; exact ext_alloc (ext_refl _) _
  obtain ⟨cj, hcj⟩ : ∃ b, b = w10.heap.size := ⟨_, rfl⟩
  have g0 : W11.heap[cj]? = some (.cells #[.slice A7 JV.length c7, .slice B7 J.length d7] 34 (0, 0)) := by rw [hW, hcj]; exact (heap_one w10 (.cells #[.slice A7 JV.length c7, .slice B7 J.length d7] 34))
  have Scj := Lib.hid hcj
  try rw [← hW]
  try rw [← hcj]
  have HE_73 := Lib.hid (ext_trans HE_57.out hE)
  clear HE_57
  have X0_74 := Lib.hid ((ext_block hE (block_lt X0_58.out)).trans X0_58.out)
  clear X0_58
  have X1_75 := Lib.hid ((ext_block hE (block_lt X1_59.out)).trans X1_59.out)
  clear X1_59
  have OA0_76 := Lib.hid (own_ext OA0_60.out hE)
  clear OA0_60
  have TD0_77 := Lib.hid (tD_ext TD0_61.out hE)
  clear TD0_61
  have CA0_78 := Lib.hid ((ext_block hE (block_lt CA0_62.out)).trans CA0_62.out)
  clear CA0_62
  have CM0_79 := Lib.hid ((ext_block hE (block_lt CM0_63.out)).trans CM0_63.out)
  clear CM0_63
  have OA1_80 := Lib.hid (own_ext OA1_64.out hE)
  clear OA1_64
  have TD1_81 := Lib.hid (tD_ext TD1_65.out hE)
  clear TD1_65
  have CA1_82 := Lib.hid ((ext_block hE (block_lt CA1_66.out)).trans CA1_66.out)
  clear CA1_66
  have CM1_83 := Lib.hid ((ext_block hE (block_lt CM1_67.out)).trans CM1_67.out)
  clear CM1_67
  have ON_84 := Lib.hid (own_ext ON_68.out hE)
  clear ON_68
  have CN_85 := Lib.hid ((ext_block hE (block_lt CN_69.out)).trans CN_69.out)
  clear CN_69
  have OW_86 := Lib.hid (own_ext OW_70.out hE)
  clear OW_70
  have CW_87 := Lib.hid ((ext_block hE (block_lt CW_71.out)).trans CW_71.out)
  clear CW_71
  have TDJ_88 := Lib.hid (tD_ext TDJ_72.out hE)
  clear TDJ_72
  have CJ_89 := Lib.hid (show W11.heap[cj]? = some (.cells #[.slice A7 JV.length c7, .slice B7 J.length d7] 34 (0, 0)) from g0)
  clear g0 hcj
  clear hE hW
  have hsl : S.length ≤ 72 := TBW.out.rows
  have hjl : J.length ≤ 64 := TBJ.out.rows
  have hml : M.length ≤ 8 := TB0.out.rows
  have hwr : IntKind.i64.wrap ((J.length : Int) + (M.length : Int)) = (J.length : Int) + (M.length : Int) := IntWalk.i64_in _ (by omega)
  have hperm := (away_parts N M).length_eq
  rw [← DS.out, ← DJ.out, List.length_append] at hperm
  have hmany : J.length ≤ S.length := by omega
  have hfl := List.length_filter_le (loneB N) M
  have hlast : S.length ≤ J.length + M.length := by omega
  have hall : M.length ≤ S.length := by rw [DS.out]; exact away_many N M
  clear hperm hfl
  have TBOW := TBW
  have qCN0 : W11.cell? ⟨cn, 0, none⟩ = some (.slice A5 JV.length c5) := block_cell CN_85.out 0
  have qCN1 : W11.cell? ⟨cn, 1, none⟩ = some (.slice B5 M.length d5) := block_cell CN_85.out 1
  have lCN := block_lt CN_85.out
  have qCM00 : W11.cell? ⟨cm0, 0, none⟩ = some (.slice D0 U.length k0) := block_cell CM0_79.out 0
  have qCM01 : W11.cell? ⟨cm0, 1, none⟩ = some (.slice G0 M.length o0) := block_cell CM0_79.out 1
  have lCM0 := block_lt CM0_79.out
  have qCM10 : W11.cell? ⟨cm1, 0, none⟩ = some (.slice D1 V.length k1) := block_cell CM1_83.out 0
  have qCM11 : W11.cell? ⟨cm1, 1, none⟩ = some (.slice G1 N.length o1) := block_cell CM1_83.out 1
  have lCM1 := block_lt CM1_83.out
  have qCW0 : W11.cell? ⟨cw, 0, none⟩ = some (.slice A6 JV.length c6) := block_cell CW_87.out 0
  have qCW1 : W11.cell? ⟨cw, 1, none⟩ = some (.slice B6 S.length d6) := block_cell CW_87.out 1
  have lCW := block_lt CW_87.out
  have qCJ0 : W11.cell? ⟨cj, 0, none⟩ = some (.slice A7 JV.length c7) := block_cell CJ_89.out 0
  have qCJ1 : W11.cell? ⟨cj, 1, none⟩ = some (.slice B7 J.length d7) := block_cell CJ_89.out 1
  have lCJ := block_lt CJ_89.out
  have qCA00 : W11.cell? ⟨ca0, 0, none⟩ = some (.slice P0 U.length i0) := block_cell CA0_78.out 0
  have qCA01 : W11.cell? ⟨ca0, 1, none⟩ = some (.slice Q0 M.length j0) := block_cell CA0_78.out 1
  have lCA0 := block_lt CA0_78.out
  have qCA10 : W11.cell? ⟨ca1, 0, none⟩ = some (.slice P1 V.length i1) := block_cell CA1_82.out 0
  have qCA11 : W11.cell? ⟨ca1, 1, none⟩ = some (.slice Q1 N.length j1) := block_cell CA1_82.out 1
  have lCA1 := block_lt CA1_82.out
  have hgc := cell_grown
  have uCN0 : ∀ w', Ext W11 w' → w'.cell? ⟨cn, 0, none⟩ = some (.slice A5 JV.length c5) := fun w' hE => (ext_cell hE _ _ lCN).trans qCN0
  have uCN1 : ∀ w', Ext W11 w' → w'.cell? ⟨cn, 1, none⟩ = some (.slice B5 M.length d5) := fun w' hE => (ext_cell hE _ _ lCN).trans qCN1
  have uCM00 : ∀ w', Ext W11 w' → w'.cell? ⟨cm0, 0, none⟩ = some (.slice D0 U.length k0) := fun w' hE => (ext_cell hE _ _ lCM0).trans qCM00
  have uCM01 : ∀ w', Ext W11 w' → w'.cell? ⟨cm0, 1, none⟩ = some (.slice G0 M.length o0) := fun w' hE => (ext_cell hE _ _ lCM0).trans qCM01
  have uCM10 : ∀ w', Ext W11 w' → w'.cell? ⟨cm1, 0, none⟩ = some (.slice D1 V.length k1) := fun w' hE => (ext_cell hE _ _ lCM1).trans qCM10
  have uCM11 : ∀ w', Ext W11 w' → w'.cell? ⟨cm1, 1, none⟩ = some (.slice G1 N.length o1) := fun w' hE => (ext_cell hE _ _ lCM1).trans qCM11
  have uCW0 : ∀ w', Ext W11 w' → w'.cell? ⟨cw, 0, none⟩ = some (.slice A6 JV.length c6) := fun w' hE => (ext_cell hE _ _ lCW).trans qCW0
  have uCW1 : ∀ w', Ext W11 w' → w'.cell? ⟨cw, 1, none⟩ = some (.slice B6 S.length d6) := fun w' hE => (ext_cell hE _ _ lCW).trans qCW1
  have uCJ0 : ∀ w', Ext W11 w' → w'.cell? ⟨cj, 0, none⟩ = some (.slice A7 JV.length c7) := fun w' hE => (ext_cell hE _ _ lCJ).trans qCJ0
  have uCJ1 : ∀ w', Ext W11 w' → w'.cell? ⟨cj, 1, none⟩ = some (.slice B7 J.length d7) := fun w' hE => (ext_cell hE _ _ lCJ).trans qCJ1
  have uCA00 : ∀ w', Ext W11 w' → w'.cell? ⟨ca0, 0, none⟩ = some (.slice P0 U.length i0) := fun w' hE => (ext_cell hE _ _ lCA0).trans qCA00
  have uCA01 : ∀ w', Ext W11 w' → w'.cell? ⟨ca0, 1, none⟩ = some (.slice Q0 M.length j0) := fun w' hE => (ext_cell hE _ _ lCA0).trans qCA01
  have uCA10 : ∀ w', Ext W11 w' → w'.cell? ⟨ca1, 0, none⟩ = some (.slice P1 V.length i1) := fun w' hE => (ext_cell hE _ _ lCA1).trans qCA10
  have uCA11 : ∀ w', Ext W11 w' → w'.cell? ⟨ca1, 1, none⟩ = some (.slice Q1 N.length j1) := fun w' hE => (ext_cell hE _ _ lCA1).trans qCA11
  refine wp_region_each [] [0] [(1, false, (fun v => v = .pointer (some ⟨cm0, 0, none⟩)), fun _ _ => True), (2, false, (fun v => v = .slice D0 U.length k0), fun _ _ => True), (3, false, (fun v => v = .pointer (some ⟨cm1, 0, none⟩)), fun _ _ => True), (4, false, (fun v => v = .slice D1 V.length k1), fun _ _ => True), (5, false, (fun _ => True), fun v w' => rowE elS w' v JV), (6, false, (fun v => v = .pointer (some ⟨cm0, 1, none⟩)), fun _ _ => True), (7, false, (fun v => v = .slice G0 M.length o0), fun _ _ => True), (8, false, (fun _ => True), fun v w' => TD w' v JV M), (9, false, (fun v => v = .bool true), fun _ _ => True), (10, false, (fun v => v = .bool true), fun _ _ => True), (11, false, (fun v => v = .pointer (some ⟨cw, 1, none⟩)), fun _ _ => True), (12, false, (fun v => v = .slice B6 S.length d6), fun _ _ => True), (13, false, (fun v => v = .int .i64 (S.length : Int)), fun _ _ => True), (14, false, (fun v => v = .pointer (some ⟨cj, 1, none⟩)), fun _ _ => True), (15, false, (fun v => v = .slice B7 J.length d7), fun _ _ => True), (16, false, (fun v => v = .int .i64 (J.length : Int)), fun _ _ => True), (17, false, (fun v => v = .bool true), fun _ _ => True), (18, false, (fun v => v = .bool true), fun _ _ => True), (19, false, (fun v => v = .bool true), fun _ _ => True), (20, false, (fun v => v = .pointer (some ⟨cw, 1, none⟩)), fun _ _ => True), (21, false, (fun v => v = .slice B6 S.length d6), fun _ _ => True), (22, false, (fun v => v = .int .i64 (S.length : Int)), fun _ _ => True), (23, false, (fun v => v = .pointer (some ⟨cm0, 1, none⟩)), fun _ _ => True), (24, false, (fun v => v = .slice G0 M.length o0), fun _ _ => True), (25, false, (fun v => v = .int .i64 (M.length : Int)), fun _ _ => True), (26, false, (fun v => v = .bool true), fun _ _ => True), (27, false, (fun v => v = .bool true), fun _ _ => True), (28, false, (fun v => v = .bool true), fun _ _ => True), (29, false, (fun v => v = .pointer (some ⟨cw, 1, none⟩)), fun _ _ => True), (30, false, (fun v => v = .slice B6 S.length d6), fun _ _ => True), (31, false, (fun v => v = .int .i64 (S.length : Int)), fun _ _ => True), (32, false, (fun v => v = .pointer (some ⟨cj, 1, none⟩)), fun _ _ => True), (33, false, (fun v => v = .slice B7 J.length d7), fun _ _ => True), (34, false, (fun v => v = .int .i64 (J.length : Int)), fun _ _ => True), (35, false, (fun v => v = .pointer (some ⟨cm0, 1, none⟩)), fun _ _ => True), (36, false, (fun v => v = .slice G0 M.length o0), fun _ _ => True), (37, false, (fun v => v = .int .i64 (M.length : Int)), fun _ _ => True), (38, false, (fun v => v = .int .i64 ((J.length : Int) + (M.length : Int))), fun _ _ => True), (39, false, (fun v => v = .bool true), fun _ _ => True), (40, false, (fun v => v = .bool true), fun _ _ => True), (41, false, (fun v => v = .bool true), fun _ _ => True), (42, false, (fun v => v = (.agg #[.slice A6 JV.length c6, .slice B6 S.length d6])), fun _ _ => True), (43, false, (fun v => v = (.agg #[.slice P0 U.length i0, .slice Q0 M.length j0])), fun _ _ => True), (44, false, (fun v => v = (.agg #[.slice P1 V.length i1, .slice Q1 N.length j1])), fun _ _ => True), (45, false, (fun _ => True), TabQ 0 JV J), (46, false, (fun _ => True), TabQ 0 JV (minusQ J S)), (47, false, (fun v => v = (.agg #[.slice A6 JV.length c6, .slice B6 S.length d6])), fun _ _ => True), (48, false, (fun v => v = .func (.func 28) #[] #[.pointer (some ⟨ca1, 0, none⟩)]), fun _ _ => True), (49, false, (fun _ => True), fun v w' => TabQ 0 JV (S.filter (loneB N)) v w'), (50, false, (fun v => v = .bool true), fun _ _ => True), (51, false, (fun v => v = .bool true), fun _ _ => True)] [52] [1, 2, 3, 4, 5, 6, 7, 8, 9, 10, 11, 12, 13, 14, 15, 16, 17, 18, 19, 20, 21, 22, 23, 24, 25, 26, 27, 28, 29, 30, 31, 32, 33, 34, 35, 36, 37, 38, 39, 40, 41, 42, 43, 44, 45, 46, 47, 48, 49, 50, 51] rfl (by kernel_rfl) (by kernel_rfl) (fun _ _ d _ _ h => by cases d <;> exact h) ?_
  refine wpPre_nil ?_
  repeat (refine wpLoose_step rfl (fun K hK => ?_); (try simp only [Oper.quietAt, Oper.quietUpon]); go_simp; (refine hK _ ?_; clear hK K))
  refine wpLoose_nil ?_
  clear qCN0 qCN1 lCN qCM00 qCM01 lCM0 qCM10 qCM11 lCM1 qCW0 qCW1 lCW qCJ0 qCJ1 lCJ qCA00 qCA01 lCA0 qCA10 qCA11 lCA1 hgc
  refine wpGz_pure1 (fun _ _ _ h h1 w' hw hs => h1 w' hw (h _ hs)) rfl (fun w6 hE6 hS6 => ?_) (fun K hK => ?_)
  · simp only [opAt, runsAt]
    go_simp
    all_goals (first | exact ⟨ext_refl _, rfl⟩ | exact ext_refl _ | rfl | trivial | omega | exact ⟨ext_refl _, by first | omega | (simp; omega) | simp⟩ | (simp; omega))
  go_simp
  refine hK _ ?_
  clear hK K
  refine wpGz_pure1 (fun _ _ _ h h1 w' hw hs => h1 w' hw (h _ hs)) rfl (fun w6 hE6 hS6 => ?_) (fun K hK => ?_)
  · simp only [opAt, runsAt]
    go_simp
    all_goals (first | exact ⟨ext_refl _, rfl⟩ | exact ext_refl _ | rfl | trivial | omega | exact ⟨ext_refl _, by first | omega | (simp; omega) | simp⟩ | (simp; omega))
  go_simp
  refine hK _ ?_
  clear hK K
  refine wpGz_pure1 (fun _ _ _ h h1 w' hw hs => h1 w' hw (h _ hs)) rfl (fun w6 hE6 hS6 => ?_) (fun K hK => ?_)
  · simp only [opAt, runsAt]
    go_simp
    all_goals (first | exact ⟨ext_refl _, rfl⟩ | exact ext_refl _ | rfl | trivial | omega | exact ⟨ext_refl _, by first | omega | (simp; omega) | simp⟩ | (simp; omega))
  go_simp
  refine hK _ ?_
  clear hK K
  refine wpGz_pure1 (fun _ _ _ h h1 w' hw hs => h1 w' hw (h _ hs)) rfl (fun w6 hE6 hS6 => ?_) (fun K hK => ?_)
  · simp only [opAt, runsAt]
    go_simp
    all_goals (first | exact ⟨ext_refl _, rfl⟩ | exact ext_refl _ | rfl | trivial | omega | exact ⟨ext_refl _, by first | omega | (simp; omega) | simp⟩ | (simp; omega))
  go_simp
  refine hK _ ?_
  clear hK K
  refine wpGz_step1 rfl (fun v a b hE h => rowE_ext h hE) ⟨undef, trivial⟩ (fun w6 hE6 hS6 => ?_) (fun v5 _ K hK => ?_)
  · simp only [opAt, runsAt]
    go_simp
    refine (bothT _ _ w6 (tD_parts (tD_ext TD0_77.out hE6)).1 (tD_parts (tD_ext TD1_81.out hE6)).1 ⟨by omega, by omega⟩ JV DJV.out).mono ?_
    rintro e w7 ⟨v', rfl, h3, h4⟩
    exact ⟨_, rfl, h4, h3⟩
  go_simp
  refine hK _ ?_
  clear hK K
  refine wpGz_pure1 (fun _ _ _ h h1 w' hw hs => h1 w' hw (h _ hs)) rfl (fun w6 hE6 hS6 => ?_) (fun K hK => ?_)
  · simp only [opAt, runsAt]
    go_simp
    all_goals (first | exact ⟨ext_refl _, rfl⟩ | exact ext_refl _ | rfl | trivial | omega | exact ⟨ext_refl _, by first | omega | (simp; omega) | simp⟩ | (simp; omega))
  go_simp
  refine hK _ ?_
  clear hK K
  refine wpGz_pure1 (fun _ _ _ h h1 w' hw hs => h1 w' hw (h _ hs)) rfl (fun w6 hE6 hS6 => ?_) (fun K hK => ?_)
  · simp only [opAt, runsAt]
    go_simp
    all_goals (first | exact ⟨ext_refl _, rfl⟩ | exact ext_refl _ | rfl | trivial | omega | exact ⟨ext_refl _, by first | omega | (simp; omega) | simp⟩ | (simp; omega))
  go_simp
  refine hK _ ?_
  clear hK K
  refine wpGz_step1 rfl (fun v a b hE h => tD_ext h hE) ⟨undef, trivial⟩ (fun w6 hE6 hS6 => ?_) (fun v8 _ K hK => ?_)
  · have hb : rowE elS w6 v5 JV := (hS6 _ (List.mem_cons_self ..) (by kernel_rfl))
    obtain ⟨A9, c9, rfl⟩ := rowE_form hb
    simp only [opAt, runsAt]
    go_simp
    exact ⟨ext_refl _, _, _, rfl, hb, (tD_parts (tD_ext TD0_77.out hE6)).2⟩
  go_simp
  refine hK _ ?_
  clear hK K
  refine wpGz_pure1 (fun _ _ _ h h1 w' hw hs => h1 w' hw (h _ hs)) rfl (fun w6 hE6 hS6 => ?_) (fun K hK => ?_)
  · simp only [opAt, runsAt]
    go_simp
    refine (isT _ _ w6 ⟨_, _, rfl, own_low (own_ext ON_84.out hE6) (Nat.zero_le _)⟩ (hS6 _ (List.mem_cons_self ..) (by kernel_rfl)) TBN.out (by omega) (by omega)).mono ?_
    rintro e w7 ⟨rfl, h4⟩
    first | exact ⟨rfl, h4⟩ | exact ⟨_, rfl, h4, rfl⟩
  go_simp
  refine hK _ ?_
  clear hK K
  refine wpGz_pure1 (fun _ _ _ h h1 w' hw hs => h1 w' hw (h _ hs)) rfl (fun w6 hE6 hS6 => ?_) (fun K hK => ?_)
  · simp only [opAt, runsAt]
    go_simp
    all_goals (first | exact ⟨ext_refl _, rfl⟩ | exact ext_refl _ | rfl | trivial | omega | exact ⟨ext_refl _, by first | omega | (simp; omega) | simp⟩ | (simp; omega))
  go_simp
  refine hK _ ?_
  clear hK K
  refine wpGz_pure1 (fun _ _ _ h h1 w' hw hs => h1 w' hw (h _ hs)) rfl (fun w6 hE6 hS6 => ?_) (fun K hK => ?_)
  · simp only [opAt, runsAt]
    go_simp
    all_goals (first | exact ⟨ext_refl _, rfl⟩ | exact ext_refl _ | rfl | trivial | omega | exact ⟨ext_refl _, by first | omega | (simp; omega) | simp⟩ | (simp; omega))
  go_simp
  refine hK _ ?_
  clear hK K
  refine wpGz_pure1 (fun _ _ _ h h1 w' hw hs => h1 w' hw (h _ hs)) rfl (fun w6 hE6 hS6 => ?_) (fun K hK => ?_)
  · simp only [opAt, runsAt]
    go_simp
    all_goals (first | exact ⟨ext_refl _, rfl⟩ | exact ext_refl _ | rfl | trivial | omega | exact ⟨ext_refl _, by first | omega | (simp; omega) | simp⟩ | (simp; omega))
  go_simp
  refine hK _ ?_
  clear hK K
  refine wpGz_pure1 (fun _ _ _ h h1 w' hw hs => h1 w' hw (h _ hs)) rfl (fun w6 hE6 hS6 => ?_) (fun K hK => ?_)
  · simp only [opAt, runsAt]
    go_simp
    all_goals (first | exact ⟨ext_refl _, rfl⟩ | exact ext_refl _ | rfl | trivial | omega | exact ⟨ext_refl _, by first | omega | (simp; omega) | simp⟩ | (simp; omega))
  go_simp
  refine hK _ ?_
  clear hK K
  refine wpGz_pure1 (fun _ _ _ h h1 w' hw hs => h1 w' hw (h _ hs)) rfl (fun w6 hE6 hS6 => ?_) (fun K hK => ?_)
  · simp only [opAt, runsAt]
    go_simp
    all_goals (first | exact ⟨ext_refl _, rfl⟩ | exact ext_refl _ | rfl | trivial | omega | exact ⟨ext_refl _, by first | omega | (simp; omega) | simp⟩ | (simp; omega))
  go_simp
  refine hK _ ?_
  clear hK K
  refine wpGz_pure1 (fun _ _ _ h h1 w' hw hs => h1 w' hw (h _ hs)) rfl (fun w6 hE6 hS6 => ?_) (fun K hK => ?_)
  · simp only [opAt, runsAt]
    go_simp
    all_goals (first | exact ⟨ext_refl _, rfl⟩ | exact ext_refl _ | rfl | trivial | omega | exact ⟨ext_refl _, by first | omega | (simp; omega) | simp⟩ | (simp; omega))
  go_simp
  refine hK _ ?_
  clear hK K
  refine wpGz_pure1 (fun _ _ _ h h1 w' hw hs => h1 w' hw (h _ hs)) rfl (fun w6 hE6 hS6 => ?_) (fun K hK => ?_)
  · simp only [opAt, runsAt]
    go_simp
    all_goals (first | exact ⟨ext_refl _, rfl⟩ | exact ext_refl _ | rfl | trivial | omega | exact ⟨ext_refl _, by first | omega | (simp; omega) | simp⟩ | (simp; omega))
  go_simp
  refine hK _ ?_
  clear hK K
  refine wpGz_pure1 (fun _ _ _ h h1 w' hw hs => h1 w' hw (h _ hs)) rfl (fun w6 hE6 hS6 => ?_) (fun K hK => ?_)
  · simp only [opAt, runsAt]
    go_simp
    all_goals (first | exact ⟨ext_refl _, rfl⟩ | exact ext_refl _ | rfl | trivial | omega | exact ⟨ext_refl _, by first | omega | (simp; omega) | simp⟩ | (simp; omega))
  go_simp
  refine hK _ ?_
  clear hK K
  refine wpGz_pure1 (fun _ _ _ h h1 w' hw hs => h1 w' hw (h _ hs)) rfl (fun w6 hE6 hS6 => ?_) (fun K hK => ?_)
  · simp only [opAt, runsAt]
    go_simp
    all_goals (first | exact ⟨ext_refl _, rfl⟩ | exact ext_refl _ | rfl | trivial | omega | exact ⟨ext_refl _, by first | omega | (simp; omega) | simp⟩ | (simp; omega))
  go_simp
  refine hK _ ?_
  clear hK K
  refine wpGz_pure1 (fun _ _ _ h h1 w' hw hs => h1 w' hw (h _ hs)) rfl (fun w6 hE6 hS6 => ?_) (fun K hK => ?_)
  · simp only [opAt, runsAt]
    go_simp
    all_goals (first | exact ⟨ext_refl _, rfl⟩ | exact ext_refl _ | rfl | trivial | omega | exact ⟨ext_refl _, by first | omega | (simp; omega) | simp⟩ | (simp; omega))
  go_simp
  refine hK _ ?_
  clear hK K
  refine wpGz_pure1 (fun _ _ _ h h1 w' hw hs => h1 w' hw (h _ hs)) rfl (fun w6 hE6 hS6 => ?_) (fun K hK => ?_)
  · simp only [opAt, runsAt]
    go_simp
    all_goals (first | exact ⟨ext_refl _, rfl⟩ | exact ext_refl _ | rfl | trivial | omega | exact ⟨ext_refl _, by first | omega | (simp; omega) | simp⟩ | (simp; omega))
  go_simp
  refine hK _ ?_
  clear hK K
  refine wpGz_pure1 (fun _ _ _ h h1 w' hw hs => h1 w' hw (h _ hs)) rfl (fun w6 hE6 hS6 => ?_) (fun K hK => ?_)
  · simp only [opAt, runsAt]
    go_simp
    all_goals (first | exact ⟨ext_refl _, rfl⟩ | exact ext_refl _ | rfl | trivial | omega | exact ⟨ext_refl _, by first | omega | (simp; omega) | simp⟩ | (simp; omega))
  go_simp
  refine hK _ ?_
  clear hK K
  refine wpGz_pure1 (fun _ _ _ h h1 w' hw hs => h1 w' hw (h _ hs)) rfl (fun w6 hE6 hS6 => ?_) (fun K hK => ?_)
  · simp only [opAt, runsAt]
    go_simp
    all_goals (first | exact ⟨ext_refl _, rfl⟩ | exact ext_refl _ | rfl | trivial | omega | exact ⟨ext_refl _, by first | omega | (simp; omega) | simp⟩ | (simp; omega))
  go_simp
  refine hK _ ?_
  clear hK K
  refine wpGz_pure1 (fun _ _ _ h h1 w' hw hs => h1 w' hw (h _ hs)) rfl (fun w6 hE6 hS6 => ?_) (fun K hK => ?_)
  · simp only [opAt, runsAt]
    go_simp
    all_goals (first | exact ⟨ext_refl _, rfl⟩ | exact ext_refl _ | rfl | trivial | omega | exact ⟨ext_refl _, by first | omega | (simp; omega) | simp⟩ | (simp; omega))
  go_simp
  refine hK _ ?_
  clear hK K
  refine wpGz_pure1 (fun _ _ _ h h1 w' hw hs => h1 w' hw (h _ hs)) rfl (fun w6 hE6 hS6 => ?_) (fun K hK => ?_)
  · simp only [opAt, runsAt]
    go_simp
    all_goals (first | exact ⟨ext_refl _, rfl⟩ | exact ext_refl _ | rfl | trivial | omega | exact ⟨ext_refl _, by first | omega | (simp; omega) | simp⟩ | (simp; omega))
  go_simp
  refine hK _ ?_
  clear hK K
  refine wpGz_pure1 (fun _ _ _ h h1 w' hw hs => h1 w' hw (h _ hs)) rfl (fun w6 hE6 hS6 => ?_) (fun K hK => ?_)
  · simp only [opAt, runsAt]
    go_simp
    all_goals (first | exact ⟨ext_refl _, rfl⟩ | exact ext_refl _ | rfl | trivial | omega | exact ⟨ext_refl _, by first | omega | (simp; omega) | simp⟩ | (simp; omega))
  go_simp
  refine hK _ ?_
  clear hK K
  refine wpGz_pure1 (fun _ _ _ h h1 w' hw hs => h1 w' hw (h _ hs)) rfl (fun w6 hE6 hS6 => ?_) (fun K hK => ?_)
  · simp only [opAt, runsAt]
    go_simp
    all_goals (first | exact ⟨ext_refl _, rfl⟩ | exact ext_refl _ | rfl | trivial | omega | exact ⟨ext_refl _, by first | omega | (simp; omega) | simp⟩ | (simp; omega))
  go_simp
  refine hK _ ?_
  clear hK K
  refine wpGz_pure1 (fun _ _ _ h h1 w' hw hs => h1 w' hw (h _ hs)) rfl (fun w6 hE6 hS6 => ?_) (fun K hK => ?_)
  · simp only [opAt, runsAt]
    go_simp
    all_goals (first | exact ⟨ext_refl _, rfl⟩ | exact ext_refl _ | rfl | trivial | omega | exact ⟨ext_refl _, by first | omega | (simp; omega) | simp⟩ | (simp; omega))
  go_simp
  refine hK _ ?_
  clear hK K
  refine wpGz_pure1 (fun _ _ _ h h1 w' hw hs => h1 w' hw (h _ hs)) rfl (fun w6 hE6 hS6 => ?_) (fun K hK => ?_)
  · simp only [opAt, runsAt]
    go_simp
    all_goals (first | exact ⟨ext_refl _, rfl⟩ | exact ext_refl _ | rfl | trivial | omega | exact ⟨ext_refl _, by first | omega | (simp; omega) | simp⟩ | (simp; omega))
  go_simp
  refine hK _ ?_
  clear hK K
  refine wpGz_pure1 (fun _ _ _ h h1 w' hw hs => h1 w' hw (h _ hs)) rfl (fun w6 hE6 hS6 => ?_) (fun K hK => ?_)
  · simp only [opAt, runsAt]
    go_simp
    all_goals (first | exact ⟨ext_refl _, rfl⟩ | exact ext_refl _ | rfl | trivial | omega | exact ⟨ext_refl _, by first | omega | (simp; omega) | simp⟩ | (simp; omega))
  go_simp
  refine hK _ ?_
  clear hK K
  refine wpGz_pure1 (fun _ _ _ h h1 w' hw hs => h1 w' hw (h _ hs)) rfl (fun w6 hE6 hS6 => ?_) (fun K hK => ?_)
  · simp only [opAt, runsAt]
    go_simp
    all_goals (first | exact ⟨ext_refl _, rfl⟩ | exact ext_refl _ | rfl | trivial | omega | exact ⟨ext_refl _, by first | omega | (simp; omega) | simp⟩ | (simp; omega))
  go_simp
  refine hK _ ?_
  clear hK K
  refine wpGz_pure1 (fun _ _ _ h h1 w' hw hs => h1 w' hw (h _ hs)) rfl (fun w6 hE6 hS6 => ?_) (fun K hK => ?_)
  · simp only [opAt, runsAt]
    go_simp
    all_goals (first | exact ⟨ext_refl _, rfl⟩ | exact ext_refl _ | rfl | trivial | omega | exact ⟨ext_refl _, by first | omega | (simp; omega) | simp⟩ | (simp; omega))
  go_simp
  refine hK _ ?_
  clear hK K
  refine wpGz_pure1 (fun _ _ _ h h1 w' hw hs => h1 w' hw (h _ hs)) rfl (fun w6 hE6 hS6 => ?_) (fun K hK => ?_)
  · simp only [opAt, runsAt]
    go_simp
    all_goals (first | exact ⟨ext_refl _, rfl⟩ | exact ext_refl _ | rfl | trivial | omega | exact ⟨ext_refl _, by first | omega | (simp; omega) | simp⟩ | (simp; omega))
  go_simp
  refine hK _ ?_
  clear hK K
  refine wpGz_pure1 (fun _ _ _ h h1 w' hw hs => h1 w' hw (h _ hs)) rfl (fun w6 hE6 hS6 => ?_) (fun K hK => ?_)
  · simp only [opAt, runsAt]
    go_simp
    all_goals (first | exact ⟨ext_refl _, rfl⟩ | exact ext_refl _ | rfl | trivial | omega | exact ⟨ext_refl _, by first | omega | (simp; omega) | simp⟩ | (simp; omega))
  go_simp
  refine hK _ ?_
  clear hK K
  refine wpGz_pure1 (fun _ _ _ h h1 w' hw hs => h1 w' hw (h _ hs)) rfl (fun w6 hE6 hS6 => ?_) (fun K hK => ?_)
  · simp only [opAt, runsAt]
    go_simp
    all_goals (first | exact ⟨ext_refl _, rfl⟩ | exact ext_refl _ | rfl | trivial | omega | exact ⟨ext_refl _, by first | omega | (simp; omega) | simp⟩ | (simp; omega))
  go_simp
  refine hK _ ?_
  clear hK K
  refine wpGz_pure1 (fun _ _ _ h h1 w' hw hs => h1 w' hw (h _ hs)) rfl (fun w6 hE6 hS6 => ?_) (fun K hK => ?_)
  · simp only [opAt, runsAt]
    go_simp
    all_goals (first | exact ⟨ext_refl _, rfl⟩ | exact ext_refl _ | rfl | trivial | omega | exact ⟨ext_refl _, by first | omega | (simp; omega) | simp⟩ | (simp; omega))
  go_simp
  refine hK _ ?_
  clear hK K
  refine wpGz_pure1 (fun _ _ _ h h1 w' hw hs => h1 w' hw (h _ hs)) rfl (fun w6 hE6 hS6 => ?_) (fun K hK => ?_)
  · simp only [opAt, runsAt]
    go_simp
    all_goals (first | exact ⟨ext_refl _, rfl⟩ | exact ext_refl _ | rfl | trivial | omega | exact ⟨ext_refl _, by first | omega | (simp; omega) | simp⟩ | (simp; omega))
  go_simp
  refine hK _ ?_
  clear hK K
  refine wpGz_pure1 (fun _ _ _ h h1 w' hw hs => h1 w' hw (h _ hs)) rfl (fun w6 hE6 hS6 => ?_) (fun K hK => ?_)
  · simp only [opAt, runsAt]
    go_simp
    all_goals (first | exact ⟨ext_refl _, rfl⟩ | exact ext_refl _ | rfl | trivial | omega | exact ⟨ext_refl _, by first | omega | (simp; omega) | simp⟩ | (simp; omega))
  go_simp
  refine hK _ ?_
  clear hK K
  refine wpGz_pure1 (fun _ _ _ h h1 w' hw hs => h1 w' hw (h _ hs)) rfl (fun w6 hE6 hS6 => ?_) (fun K hK => ?_)
  · simp only [opAt, runsAt]
    go_simp
    all_goals (first | exact ⟨ext_refl _, rfl⟩ | exact ext_refl _ | rfl | trivial | omega | exact ⟨ext_refl _, by first | omega | (simp; omega) | simp⟩ | (simp; omega))
  go_simp
  refine hK _ ?_
  clear hK K
  refine wpGz_pure1 (fun _ _ _ h h1 w' hw hs => h1 w' hw (h _ hs)) rfl (fun w6 hE6 hS6 => ?_) (fun K hK => ?_)
  · simp only [opAt, runsAt]
    go_simp
    all_goals (first | exact ⟨ext_refl _, rfl⟩ | exact ext_refl _ | rfl | trivial | omega | exact ⟨ext_refl _, by first | omega | (simp; omega) | simp⟩ | (simp; omega))
  go_simp
  refine hK _ ?_
  clear hK K
  refine wpGz_pure1 (fun _ _ _ h h1 w' hw hs => h1 w' hw (h _ hs)) rfl (fun w6 hE6 hS6 => ?_) (fun K hK => ?_)
  · simp only [opAt, runsAt]
    go_simp
    all_goals (first | exact ⟨ext_refl _, rfl⟩ | exact ext_refl _ | rfl | trivial | omega | exact ⟨ext_refl _, by first | omega | (simp; omega) | simp⟩ | (simp; omega))
  go_simp
  refine hK _ ?_
  clear hK K
  refine wpGz_pure1 (fun _ _ _ h h1 w' hw hs => h1 w' hw (h _ hs)) rfl (fun w6 hE6 hS6 => ?_) (fun K hK => ?_)
  · simp only [opAt, runsAt]
    go_simp
    all_goals (first | exact ⟨ext_refl _, rfl⟩ | exact ext_refl _ | rfl | trivial | omega | exact ⟨ext_refl _, by first | omega | (simp; omega) | simp⟩ | (simp; omega))
  go_simp
  refine hK _ ?_
  clear hK K
  refine wpGz_pure1 (fun _ _ _ h h1 w' hw hs => h1 w' hw (h _ hs)) rfl (fun w6 hE6 hS6 => ?_) (fun K hK => ?_)
  · simp only [opAt, runsAt]
    go_simp
    all_goals (first | exact ⟨ext_refl _, rfl⟩ | exact ext_refl _ | rfl | trivial | omega | exact ⟨ext_refl _, by first | omega | (simp; omega) | simp⟩ | (simp; omega))
  go_simp
  refine hK _ ?_
  clear hK K
  refine wpGz_pure1 (fun _ _ _ h h1 w' hw hs => h1 w' hw (h _ hs)) rfl (fun w6 hE6 hS6 => ?_) (fun K hK => ?_)
  · simp only [opAt, runsAt]
    go_simp
    all_goals (first | exact ⟨ext_refl _, rfl⟩ | exact ext_refl _ | rfl | trivial | omega | exact ⟨ext_refl _, by first | omega | (simp; omega) | simp⟩ | (simp; omega))
  go_simp
  refine hK _ ?_
  clear hK K
  refine wpGz_pure1 (fun _ _ _ h h1 w' hw hs => h1 w' hw (h _ hs)) rfl (fun w6 hE6 hS6 => ?_) (fun K hK => ?_)
  · simp only [opAt, runsAt]
    go_simp
    all_goals (first | exact ⟨ext_refl _, rfl⟩ | exact ext_refl _ | rfl | trivial | omega | exact ⟨ext_refl _, by first | omega | (simp; omega) | simp⟩ | (simp; omega))
  go_simp
  refine hK _ ?_
  clear hK K
  refine wpGz_step1 rfl tabF_ext ⟨undef, trivial⟩ (fun w6 hE6 hS6 => ?_) (fun v45 _ K hK => ?_)
  · simp only [opAt, runsAt]
    go_simp
    refine (joinTE _ _ w6 ⟨_, _, rfl, own_low (own_ext OA0_76.out hE6) (Nat.zero_le _)⟩ ⟨_, _, rfl, own_low (own_ext OA1_80.out hE6) (Nat.zero_le _)⟩ DJV.out DJ.out TB0.out TB1.out (by omega) (by omega) (by omega) (by omega) (by omega)).mono ?_
    rintro e w7 ⟨v', rfl, h3, h4⟩
    exact ⟨_, rfl, h4, by obtain ⟨x1, x2, x3, x4⟩ := h3; exact ⟨x1, x2, x3, own_low x4 (Nat.zero_le _)⟩⟩
  go_simp
  refine hK _ ?_
  clear hK K
  refine wpGz_step1 rfl tabF_ext ⟨undef, trivial⟩ (fun w6 hE6 hS6 => ?_) (fun v46 _ K hK => ?_)
  · simp only [opAt, runsAt]
    go_simp
    refine (minusTE _ _ w6 ⟨_, _, rfl, own_low (own_ext OW_86.out hE6) (Nat.zero_le _)⟩ (hS6 _ (List.mem_cons_self ..) (by kernel_rfl)) (tabP_ext HTP.out (ext_trans HE_73.out hE6)) rfl TBOW.out TBJ.out (by omega) (by omega) (by omega) (by omega)).mono ?_
    rintro e w7 ⟨v', rfl, h3, h4⟩
    exact ⟨_, rfl, h4, by obtain ⟨x1, x2, x3, x4⟩ := h3; exact ⟨x1, x2, x3, own_low x4 (Nat.zero_le _)⟩⟩
  go_simp
  refine hK _ ?_
  clear hK K
  refine wpGz_pure1 (fun _ _ _ h h1 w' hw hs => h1 w' hw (h _ hs)) rfl (fun w6 hE6 hS6 => ?_) (fun K hK => ?_)
  · simp only [opAt, runsAt]
    go_simp
    all_goals (first | exact ⟨ext_refl _, rfl⟩ | exact ext_refl _ | rfl | trivial | omega | exact ⟨ext_refl _, by first | omega | (simp; omega) | simp⟩ | (simp; omega))
  go_simp
  refine hK _ ?_
  clear hK K
  refine wpGz_pure1 (fun _ _ _ h h1 w' hw hs => h1 w' hw (h _ hs)) rfl (fun w6 hE6 hS6 => ?_) (fun K hK => ?_)
  · simp only [opAt, runsAt]
    go_simp
    all_goals (first | exact ⟨ext_refl _, rfl⟩ | exact ext_refl _ | rfl | trivial | omega | exact ⟨ext_refl _, by first | omega | (simp; omega) | simp⟩ | (simp; omega))
  go_simp
  refine hK _ ?_
  clear hK K
  refine wpGz_step1 rfl (fun v a b hE h => tabF_ext v a b hE h) ⟨undef, trivial⟩ (fun w6 hE6 hS6 => ?_) (fun v49 _ K hK => ?_)
  · simp only [opAt, runsAt]
    go_simp
    refine (loneT _ ca1 _ _ _ _ w6 ⟨_, _, rfl, own_low (own_ext OW_86.out hE6) (Nat.zero_le _)⟩ ((ext_block hE6 (block_lt CA1_82.out)).trans CA1_82.out) ⟨_, _, rfl, own_low (own_ext OA1_80.out hE6) (Nat.zero_le _)⟩ TBW.out TB1.out (by omega) (by omega) (by omega) (by omega)).mono ?_
    rintro e w7 ⟨v', rfl, h3, h4⟩
    exact ⟨_, rfl, h4, by obtain ⟨x1, x2, x3, x4⟩ := h3; exact ⟨x1, x2, x3, own_low x4 (Nat.zero_le _)⟩⟩
  go_simp
  refine hK _ ?_
  clear hK K
  refine wpGz_pure1 (fun _ _ _ h h1 w' hw hs => h1 w' hw (h _ hs)) rfl (fun w6 hE6 hS6 => ?_) (fun K hK => ?_)
  · simp only [opAt, runsAt]
    go_simp
    have hs := sameT _ _ w6 (hS6 _ (List.mem_cons_of_mem _ (List.mem_cons_self ..)) (by kernel_rfl)) (hS6 _ (List.mem_cons_self ..) (by kernel_rfl)) (tabP_ext HTP.out (ext_trans HE_73.out hE6)) (tb_minus TBW.out _) (tb_filter TBW.out _) (by omega) (by omega) (by omega) (by omega)
    rw [(show sameB JV JV (rowsD JV (minusQ J S)) (rowsD JV (S.filter (loneB N))) = true by rw [DS.out, DJ.out]; exact nevers_same TB0.out.q TB1.out.q JV)] at hs
    refine hs.mono ?_
    rintro e w7 ⟨rfl, h4⟩
    first | exact ⟨rfl, h4⟩ | exact ⟨_, rfl, h4, rfl⟩
  go_simp
  refine hK _ ?_
  clear hK K
  refine wpGz_pure1 (fun _ _ _ h h1 w' hw hs => h1 w' hw (h _ hs)) rfl (fun w6 hE6 hS6 => ?_) (fun K hK => ?_)
  · simp only [opAt, runsAt]
    go_simp
    all_goals (first | exact ⟨ext_refl _, rfl⟩ | exact ext_refl _ | rfl | trivial | omega | exact ⟨ext_refl _, by first | omega | (simp; omega) | simp⟩ | (simp; omega))
  go_simp
  refine hK _ ?_
  clear hK K
  refine wpGz_nil (fun w6 hE6 hS6 => ?_)
  clear hS6 uCN0 uCN1 uCM00 uCM01 uCM10 uCM11 uCW0 uCW1 uCJ0 uCJ1 uCA00 uCA01 uCA10 uCA11
  obtain ⟨w12, hw⟩ : ∃ w, w = w6 := ⟨_, rfl⟩
  subst hw
  have HE_90 := Lib.hid (ext_trans HE_73.out hE6)
  clear HE_73
  have X0_91 := Lib.hid ((ext_block hE6 (block_lt X0_74.out)).trans X0_74.out)
  clear X0_74
  have X1_92 := Lib.hid ((ext_block hE6 (block_lt X1_75.out)).trans X1_75.out)
  clear X1_75
  have OA0_93 := Lib.hid (own_ext OA0_76.out hE6)
  clear OA0_76
  have TD0_94 := Lib.hid (tD_ext TD0_77.out hE6)
  clear TD0_77
  have CA0_95 := Lib.hid ((ext_block hE6 (block_lt CA0_78.out)).trans CA0_78.out)
  clear CA0_78
  have CM0_96 := Lib.hid ((ext_block hE6 (block_lt CM0_79.out)).trans CM0_79.out)
  clear CM0_79
  have OA1_97 := Lib.hid (own_ext OA1_80.out hE6)
  clear OA1_80
  have TD1_98 := Lib.hid (tD_ext TD1_81.out hE6)
  clear TD1_81
  have CA1_99 := Lib.hid ((ext_block hE6 (block_lt CA1_82.out)).trans CA1_82.out)
  clear CA1_82
  have CM1_100 := Lib.hid ((ext_block hE6 (block_lt CM1_83.out)).trans CM1_83.out)
  clear CM1_83
  have ON_101 := Lib.hid (own_ext ON_84.out hE6)
  clear ON_84
  have CN_102 := Lib.hid ((ext_block hE6 (block_lt CN_85.out)).trans CN_85.out)
  clear CN_85
  have OW_103 := Lib.hid (own_ext OW_86.out hE6)
  clear OW_86
  have CW_104 := Lib.hid ((ext_block hE6 (block_lt CW_87.out)).trans CW_87.out)
  clear CW_87
  have TDJ_105 := Lib.hid (tD_ext TDJ_88.out hE6)
  clear TDJ_88
  have CJ_106 := Lib.hid ((ext_block hE6 (block_lt CJ_89.out)).trans CJ_89.out)
  clear CJ_89
  clear hE6
  refine wpSeq_of_list [52] [_] _ _ rfl ?_
  go_wp2
  refine bodyPost_ret (results_tmp rfl _ _ _) rfl ?_
  exact ⟨rfl, HE_90.out⟩
end Go.Proofs.YtniggdaakiofeaaDoor
namespace Go.Proofs.YtniggdaakiofeaaDoor
open Go.ChangeShapes Go.WideShapes Go.ChangeAt Go.WideMaps Go.WideElems Go.RowKit

set_option maxRecDepth 100000 in
theorem nevers_lifted (os : Os) (started : os.Started) (H : Type) (enc : TypeId × Value → H) :
    ReturnsInHanded {} Tryd.checked os 6 .any (fun w args => (Rows.solutionNeversSpec.pre enc Tryd.prog Tryd.f6 [] false w args ∧ laidMetH Tryd.prog laid3 w) ∧ sizedMet enc Tryd.prog Tryd.f6 (OpenSpec.ofChange Rows.solutionNeversSpec) false w args)
      (Rows.solutionNeversSpec.post enc Tryd.prog Tryd.f6 false true false false) := by
  refine returnsInHanded_of_change_and (C := Tryd.checked) (X := fun w _ => laidMetH Tryd.prog laid3 w) (fun _ _ _ hh h => h.of_heap hh) own started (by kernel_rfl) Tryd.func6
    (ChangeSpec.witness_shaped (enc := enc) (C := Tryd.checked) (os := os) (X := fun w _ => laidMetH Tryd.prog laid3 w) false (World.doorLaid Tryd.prog 24 os) #[.agg #[.slice none 0 0, .slice none 0 0], .agg #[.slice none 0 0, .slice none 0 0]] 8 rfl (World.shaped_of_RefB (by kernel_rfl) (by kernel_rfl)) (by kernel_rfl) (by kernel_rfl) (by kernel_rfl) (door_met os _)) ?_
  intro W base args ds gs before hval0 hW _ _ hL _
  have hval : ∀ (j : Nat) t v, Tryd.f6.params[j]? = some t → args[j]? = some v → Value.okWide Tryd.prog W .any base t v := hval0
  have hW' := hW
  obtain ⟨p, q, hA0, hV, rfl, hfz, hnd⟩ := hW
  have hA : DataW.TrodAll enc Tryd.prog W 0 (fun _ => true) true Tryd.f6.params.toList args.toList ds p := hA0
  rw [Tryd.params6] at hA hval
  obtain ⟨v0, vs0, d0, ds0, p0, q0, hargs, rfl, rfl, h0, r0⟩ := trodAll_cons hA
  obtain ⟨v1, vs1, d1, ds1, p1, q1, rfl, rfl, rfl, h1, r1⟩ := trodAll_cons r0
  obtain ⟨rfl, rfl, rfl⟩ := trodAll_nil r1
  obtain rfl : args = #[v0, v1] := by cases args; simp_all
  obtain ⟨rfl, rfl⟩ := trodVars_none hV
  have lt0 : ∀ x ∈ p0, x.block < W.heap.size := by obtain ⟨m, hm⟩ := h0; exact DataW.trod_lt m _ _ _ hm
  obtain ⟨L0, M0, ha0, hl0, hm0, hn0⟩ := open_raw (hval 0 25 v0 rfl rfl) h0
  have lt1 : ∀ x ∈ p1, x.block < W.heap.size := by obtain ⟨m, hm⟩ := h1; exact DataW.trod_lt m _ _ _ hm
  obtain ⟨L1, M1, ha1, hl1, hm1, hn1⟩ := open_raw (hval 1 25 v1 rfl rfl) h1
  clear hA0 hval0
  refine (nevers_law v0 v1 L0 M0 L1 M1 W ha0 ha1 hl0 hm0 hn0 hl1 hm1 hn1 (laid_of hL)).mono fun e W' ⟨he, bel⟩ => ?_
  subst he
  have bel : Below W.heap.size W W' := bel
  exact ⟨_, rfl, _, _, _, [], _, [], hW', trodAll_mk1 (shut_bool Tryd.underlying4 _), (trodAll_cons_mk (Below.trod laidOut (by kernel_rfl) (of_decide_eq_true (by kernel_rfl)) h0 bel lt0) (trodAll_cons_mk (Below.trod laidOut (by kernel_rfl) (of_decide_eq_true (by kernel_rfl)) h1 bel lt1) trodAll_mk0)), rfl, bel.frame _, fun h => by cases h⟩

theorem nevers_row_holds : Rows.SolutionNeversSaid :=
  OpenClaim.holds_of_wide 6 Tryd.f6 rfl rfl rfl rfl rfl rfl rfl ⟨rfl, rfl, rfl, rfl, rfl⟩ rfl rfl rfl rfl rfl (by kernel_rfl) Tryd.func6 (by kernel_rfl)
    (of_decide_eq_true (by kernel_rfl)) (by unfold Func.isWrapper; first | (rw [if_pos (by decide +kernel)]; kernel_rfl) | (rw [if_neg (by decide +kernel)]; exact ⟨rfl, rfl⟩))
    (fun os started H enc _ => nevers_lifted os started H enc)

theorem nevers_holds : Rows.SolutionNeversCardSaid :=
  Claim7.holds_tied_plain_at .later [] [.data, .data, .data] true (true, "811115b5137751a59115d0a76d186c9ee974b6775d4f794146eca61a1d024a5a") false
    nevers_row_holds (fun _ h => by cases h) (by kernel_rfl) (fun _ h => by cases h) solutionNevers_row_tie rfl ⟨rfl, rfl⟩ (by kernel_rfl) rfl
    (fun f fn hf hfn => by
      obtain rfl : f = 6 := Option.some.inj ((show Tryd.prog.funcNamed "beck/becklaw14.SolutionNevers" = some 6 by kernel_rfl).symm.trans hf) |>.symm
      obtain rfl : fn = Tryd.f6 := (Option.some.inj (Tryd.func6.symm.trans hfn)).symm
      exact ⟨by kernel_rfl, fun j t ht => by
        rw [Tryd.params6] at ht
        have hm : t ∈ [25, 25] := by simpa using Array.mem_of_getElem? ht
        have hall : ([25, 25].all fun u => !Tryd.prog.wantsStandIn u) = true := by kernel_rfl
        exact (show Tryd.prog.wantsStandIn t = false by simpa using List.all_eq_true.1 hall t hm)⟩)
    (by kernel_rfl)
#print axioms nevers_holds
end Go.Proofs.YtniggdaakiofeaaDoor
