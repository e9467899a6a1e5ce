/- Is, the document's functions, Unit at tables that are the document's; rows written over. -/
import Derived.Test.YtniggdaakiofeaaDoorEp
import Derived.Test.YtniggdaakiofeaaDoorEd
namespace Go.Proofs.YtniggdaakiofeaaDoor
open Go Go.RowKit Go.Sort
set_option maxHeartbeats 1000000
/- of this seat alone: 80 -/

/-- an operation of a known value, which is not remembered; the frame is reckoned out at once -/
theorem wpGz_pure1 {P : Program} {ops : Array Oper} {W : World} {Fin : Act → (World → Prop) → Prop} (hF : ∀ a S S', (∀ w, S' w → S w) → Fin a S → Fin a S') {i : Nat} {X : Value} {l : List Ent3} {a : Act} {S : List Done} {o : Oper} (ho : ops[i]? = some o)
    (hr : ∀ w, Ext W w → (∀ x ∈ S, Region.waitsFor .any ops i x.1 = true → x.2.2.2 w) → opAt P ops o a (fun v _ => v = X) w)
    (h : ∀ K : Act → Prop, (∀ a, wpGz P ops W Fin l a S → K a) → K (a.put o.dst X)) : wpGz P ops W Fin ((i, false, (fun v => v = X), fun _ _ => True) :: l) a S :=
  wpGz_pure ho hr (wpGz_mem hF l _ _ _ (fun _ hx => List.mem_cons_of_mem _ hx) (h _ (fun _ h => h)))
theorem wpGz_step1 {P : Program} {ops : Array Oper} {W : World} {Fin : Act → (World → Prop) → Prop} {i : Nat} {C : Value → Prop} {R : Rel} {l : List Ent3} {a : Act} {S : List Done} {o : Oper} (ho : ops[i]? = some o)
    (hm : ∀ v w w', Ext w w' → R v w → R v w') (hc : ∃ v, C v) (hr : ∀ w, Ext W w → (∀ x ∈ S, Region.waitsFor .any ops i x.1 = true → x.2.2.2 w) → opAt P ops o a (fun v w' => C v ∧ R v w') w)
    (h : ∀ v, C v → ∀ K : Act → Prop, (∀ a, wpGz P ops W Fin l a ((i, false, v, R v) :: S) → K a) → K (a.put o.dst v)) : wpGz P ops W Fin ((i, false, C, R) :: l) a S :=
  wpGz_step ho hm hc hr (fun v hv => h v hv _ (fun _ h => h))
theorem isT {n m H : Nat} (tv mv : Value) {V : List ByteArray} {M : List (List VarN)} (w : World) (ht : TabQ H V M tv w) (hm : TD w mv V M) (a : Tb n m V M) (h1 : n ≤ 100) (h2 : m ≤ 100000) :
    Calls Tryd.prog 14 #[tv, mv] w fun e w' => e = .returned (.bool true) ∧ Ext w w' := by
  obtain ⟨x, y, rfl, k⟩ := tabQ_tab ht
  have hv := a.vars
  have hr := a.rows
  exact is_yes _ mv V M w k hm a.q.rise a.q.ok (by omega) (by omega) (fun r h => by have := a.len r h; omega)
theorem rjoinT {n m n' m' : Nat} (av bv : Value) {U V : List ByteArray} {M N : List (List VarN)} (w : World) (ha : TD w av U M) (hb : TD w bv V N) (a : Tb n m U M) (b : Tb n' m' V N) (h1 : n ≤ 100) (h2 : n' ≤ 100) (h3 : m ≤ 300) (h4 : m' ≤ 300) :
    Calls Tryd.prog 15 #[av, bv] w fun e w' => ∃ v', e = .returned v' ∧ TD w' v' (setS (U ++ V)) (joinQ M N) ∧ Ext w w' := by
  have ha' := ha
  have hb' := hb
  obtain ⟨x, y, rfl, -, -⟩ := ha
  obtain ⟨x', y', rfl, -, -⟩ := hb
  have hv := a.vars
  have hr := a.rows
  have hv' := b.vars
  have hr' := b.rows
  have hmul := Nat.mul_le_mul (Nat.le_trans hr h3) (Nat.le_trans hr' h4)
  refine (rjoin_any x y x' y' U V M N w ha' hb' (by omega) (by omega) (fun r h => by have := a.len r h; omega) (fun r h => by have := b.len r h; omega) (by omega) (by omega) (by omega)).mono ?_
  rintro e w' ⟨vv, rv, rfl, hto, -, hE⟩
  exact ⟨_, rfl, hto, hE⟩
theorem runionT {n m n' m' : Nat} (av bv : Value) {U V : List ByteArray} {M N : List (List VarN)} (w : World) (ha : TD w av U M) (hb : TD w bv V N) (a : Tb n m U M) (b : Tb n' m' V N) (h1 : n ≤ 100) (h2 : n' ≤ 100) (h3 : m ≤ 300) (h4 : m' ≤ 300) :
    Calls Tryd.prog 16 #[av, bv] w fun e w' => ∃ v', e = .returned v' ∧ TD w' v' (setS (U ++ V)) (M ++ N) ∧ Ext w w' := by
  have ha' := ha
  have hb' := hb
  obtain ⟨x, y, rfl, -, -⟩ := ha
  obtain ⟨x', y', rfl, -, -⟩ := hb
  have hv := a.vars
  have hr := a.rows
  have hv' := b.vars
  have hr' := b.rows
  refine (runion_any x y x' y' U V M N w ha' hb' (by omega) (by omega) (by omega) (by omega)).mono ?_
  rintro e w' ⟨vv, rv, rfl, hto, hE⟩
  exact ⟨_, rfl, hto, hE⟩
theorem unitQ_is : rowsD [] [[]] = [[]] := rfl
theorem tb_unit : Tb 0 1 [] [[]] := tb_of ⟨.nil, fun r hr => by rw [List.mem_singleton.1 hr]; exact ⟨riseR_nil, fun u hu => by cases hu⟩, fun r hr p hp => by rw [List.mem_singleton.1 hr] at hp; cases hp⟩ (by simp) (by simp)
theorem unitT (w : World) : Calls Tryd.prog 18 #[] w fun e w' => ∃ v', e = .returned v' ∧ TabQ w.heap.size [] [[]] v' w' ∧ Ext w w' := by
  refine (unit_any w).mono ?_
  rintro e w' ⟨vv, rv, rfl, how, hE⟩
  exact ⟨_, rfl, ⟨vv, rv, rfl, how⟩, hE⟩
theorem joinD_nil {y : List VarN} (hy : RiseR y) : joinD [] y = y := by
  obtain ⟨h1, h2, -⟩ := joinD_spec y riseR_nil hy
  refine riseR_ext h1 hy (fun u => ?_)
  rw [h2]
  simp [getR]
theorem unit_right {U : List ByteArray} {M : List (List VarN)} : joinQ M [[]] = M := by
  unfold joinQ
  induction M with
  | nil => rfl
  | cons r M ih =>
    rw [List.flatMap_cons, ih]
    have : compD r [] = true := by
      unfold compD
      rw [List.all_eq_true]
      intro p _
      simp [getR]
    simp [this, joinD]
theorem unit_left {U : List ByteArray} {M : List (List VarN)} (hM : ∀ r ∈ M, okR U r) : joinQ [[]] M = M := by
  unfold joinQ
  rw [List.flatMap_singleton]
  have h1 : M.filter (compD []) = M := List.filter_eq_self.2 (fun r _ => by simp [compD])
  rw [h1]
  have : ∀ L : List (List VarN), (∀ r ∈ L, okR U r) → L.map (joinD []) = L := by
    intro L
    induction L with
    | nil => intro _; rfl
    | cons r L ih =>
      intro h
      rw [List.map_cons, joinD_nil (h r (List.mem_cons_self ..)).1, ih (fun x hx => h x (List.mem_cons_of_mem _ hx))]
  exact this M hM
theorem joinUR {n m H H' : Nat} (av bv : Value) {U : List ByteArray} {M : List (List VarN)} (w : World) (ha : TabQ H U M av w) (hb : TabQ H' [] [[]] bv w) (a : Tb n m U M) (h1 : n ≤ 100) (h3 : m ≤ 1000) :
    Calls Tryd.prog 12 #[av, bv] w fun e w' => ∃ v', e = .returned v' ∧ TabQ w.heap.size U M v' w' ∧ Ext w w' := by
  refine (joinT av bv w ha hb a tb_unit h1 (by omega) h3 (by omega) (by omega)).mono ?_
  rintro e w' ⟨v', rfl, h, hE⟩
  rw [List.append_nil, setS_self a.q.rise, unit_right (U := U)] at h
  exact ⟨_, rfl, h, hE⟩
theorem joinUL {n m H H' : Nat} (av bv : Value) {U : List ByteArray} {M : List (List VarN)} (w : World) (ha : TabQ H U M av w) (hb : TabQ H' [] [[]] bv w) (a : Tb n m U M) (h1 : n ≤ 100) (h3 : m ≤ 1000) :
    Calls Tryd.prog 12 #[bv, av] w fun e w' => ∃ v', e = .returned v' ∧ TabQ w.heap.size U M v' w' ∧ Ext w w' := by
  refine (joinT bv av w hb ha tb_unit a (by omega) h1 (by omega) h3 (by omega)).mono ?_
  rintro e w' ⟨v', rfl, h, hE⟩
  rw [List.nil_append, setS_self a.q.rise, unit_left a.q.ok] at h
  exact ⟨_, rfl, h, hE⟩
theorem join_turn {U V : List ByteArray} {M N : List (List VarN)} (hM : IsQ U M) (hN : IsQ V N) : sameB (setS (U ++ V)) (setS (V ++ U)) (rowsD (setS (U ++ V)) (joinQ M N)) (rowsD (setS (V ++ U)) (joinQ N M)) = true :=
  same_iff.2 ⟨set_comm U V, by rw [set_comm U V]; exact perm_rows (joinQ_comm hM.ok hN.ok)⟩
theorem union_turn (U V : List ByteArray) (M N : List (List VarN)) : sameB (setS (U ++ V)) (setS (V ++ U)) (rowsD (setS (U ++ V)) (M ++ N)) (rowsD (setS (V ++ U)) (N ++ M)) = true :=
  same_iff.2 ⟨set_comm U V, by rw [set_comm U V]; exact perm_rows List.perm_append_comm⟩
/-- a row of numbers stays one of as many when a number is written -/
theorem rowI_set {w : World} {v : Value} {L : List Int} {b i : Nat} {k : Int} {cur : Array Value} (h : rowE elI w v L) (hb : w.heap[b]? = some (.cells cur 3 (0, 0))) : ∃ L', rowE elI (w.setCell ⟨b, i, none⟩ (.int .i64 k)) v L' ∧ L'.length = L.length := by
  rcases rowE_cases h with ⟨rfl, rfl⟩ | ⟨g, cap, cur', rfl, hg, h1, h2, h3, h4⟩
  · exact ⟨[], rowE_nil _, rfl⟩
  · by_cases e : g = b
    · subst e
      have hn := heap_setCell_at (j := i) (u := .int .i64 k) hg
      have h4' : cur'.toList.take L.length = L.map (Value.int .i64) := by
        rw [← flatI' L, ← h4]; show _ = cur'.toList.take (L.length * 1); rw [Nat.mul_one]
      refine ⟨L.set i k, ⟨by rw [flatE_length], .inr ⟨g, cap, _, by rw [List.length_set], Nat.zero_le _, hn, by rw [List.length_set]; exact h1, h2, by simpa using h3, ?_⟩⟩, by simp⟩
      rw [flatI', List.length_set]
      show ((cur'.setIfInBounds i (.int .i64 k)).toList.take (L.length * 1)) = _
      rw [Nat.mul_one, Array.toList_setIfInBounds, List.take_set, h4', List.map_set]
    · refine ⟨L, rowE_upd h (upd_setCell (a := ⟨b, i, none⟩) _) (fun q hq (e' : q = b) => e ?_), rfl⟩
      have : g = q := by simpa [Value.ownBlock] using hq
      rw [this, e']
end Go.Proofs.YtniggdaakiofeaaDoor
