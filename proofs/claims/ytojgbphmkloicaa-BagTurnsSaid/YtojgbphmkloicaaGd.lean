/- As Gc; the operations that turn memory stand in a chain, each with a relation. -/
import Derived.Test.YtojgbphmkloicaaGc
namespace Go.Proofs.Ytojgbphmkloicaa
open Go Go.RowKit Go.Sort

section
variable {P : Program} {ops : Array Oper} {W : World} {C : World → Prop}
/-- operations in a chain: of each a relation, told of what the one before has left -/
def wpCh (P : Program) (C : World → Prop) (ops : Array Oper) (Fin : Act → (World → Prop) → Prop) : List (Nat × Rel) → Act → (World → Prop) → Prop
  | [], a, S => Fin a S
  | (i, R) :: l, a, S => ∃ o, ops[i]? = some o ∧ o.guard = none ∧ (∀ v w w', Ext w w' → R v w → R v w') ∧ (∀ w, C w → S w → runsAt P o a (fun v w' => C w' ∧ R v w') w) ∧ ∀ v, wpCh P C ops Fin l (a.put o.dst v) (R v)
theorem wpCh_nil {Fin : Act → (World → Prop) → Prop} {a : Act} {S : World → Prop} (h : Fin a S) : wpCh P C ops Fin [] a S := h
theorem wpCh_step {Fin : Act → (World → Prop) → Prop} {i : Nat} {R : Rel} {l : List (Nat × Rel)} {a : Act} {S : World → Prop} {o : Oper} (ho : ops[i]? = some o) (hg : o.guard = none) (hm : ∀ v w w', Ext w w' → R v w → R v w') (hr : ∀ w, C w → S w → runsAt P o a (fun v w' => C w' ∧ R v w') w)
    (h : ∀ v, wpCh P C ops Fin l (a.put o.dst v) (R v)) : wpCh P C ops Fin ((i, R) :: l) a S := ⟨o, ho, hg, hm, hr, h⟩
theorem dcore (hCE : ∀ a b, C a → Ext a b → C b) {Q : Exit → Act → World → Prop} {D T : List Nat} {M : List (Nat × Rel)} (hsel : ∀ (j : Nat) (o : Oper) cs b, ops[j]? = some o → o.op ≠ .select cs b)
    (hD : List.Pairwise (Pr ops) (D ++ M.map Prod.fst)) (hS : ∀ i ∈ D ++ M.map Prod.fst, mselfB ops T i = true) (hsink : ∀ t l, T = t :: l → sinkL ops t (D ++ M.map Prod.fst) = true) (hM : M.Pairwise fun x y => Region.waitsFor .any ops y.1 x.1 = true) (hchain : chainL ops T = true) (hseq : seqL ops T (mcanon ops T) = true) :
    ∀ (m : Nat) (listed : Array Bool) (a : Act) (w : World) (Dr : List Nat) (Mr : List (Nat × Rel)) (S : World → Prop), Dr.length + Mr.length = m → MInv ops T listed →
      (∀ i, i < ops.size → i ∉ T → (listed.getD i true = false ↔ i ∈ Dr ∨ i ∈ Mr.map Prod.fst)) → Dr.Sublist D → Mr.Sublist M → C w → S w →
      (∀ w w', Ext w w' → S w → S w') →
      wpC P C ops (fun a' => wpCh P C ops (fun a'' S' => ∀ w', C w' → S' w' → wpSeq P ops Q T a'' w') Mr a' S) Dr a →
      wpAny P .any ops Q (m + T.length) listed a w := by
  intro m
  induction m with
  | zero =>
    intro listed a w Dr Mr S hm inv hun hDr hMr hb hs hmono h
    obtain rfl : Dr = [] := List.eq_nil_of_length_eq_zero (by omega)
    obtain rfl : Mr = [] := List.eq_nil_of_length_eq_zero (by omega)
    exact ccore1 (C := C) hCE (DA := D ++ M.map Prod.fst) hsel hD hS hsink hchain hseq 0 listed a w [] S rfl inv (fun i h1 h2 => by rw [hun i h1 h2]; simp) (List.nil_sublist _) hb hs hmono h
  | succ m ih =>
    intro listed a w Dr Mr0 S hm inv hun hDr hMr hb hs hmono h
    cases Mr0 with
    | nil => exact ccore1 (C := C) hCE (DA := D ++ M.map Prod.fst) hsel hD hS hsink hchain hseq (m + 1) listed a w Dr S (by simpa using hm) inv (fun i h1 h2 => by rw [hun i h1 h2]; simp) (hDr.trans (List.sublist_append_left ..)) hb hs hmono h
    | cons x0 Mr =>
    rw [show m + 1 + T.length = (m + T.length) + 1 by omega]
    obtain ⟨Ar, hAr⟩ : ∃ Ar, (x0 :: Mr).map Prod.fst = Ar := ⟨_, rfl⟩
    obtain ⟨A, hA⟩ : ∃ A, M.map Prod.fst = A := ⟨_, rfl⟩
    have hlenA : Ar.length = Mr.length + 1 := by rw [← hAr, List.length_map]; rfl
    rw [hA] at hD hS hsink
    rw [hAr] at hun
    have hArs : Ar.Sublist A := by rw [← hAr, ← hA]; exact hMr.map _
    have hsub : (Dr ++ Ar).Sublist (D ++ A) := hDr.append hArs
    have hpw : List.Pairwise (Pr ops) (Dr ++ Ar) := hD.sublist hsub
    have hmem : ∀ i ∈ Dr ++ Ar, mselfB ops T i = true := fun i hi => hS i (hsub.subset hi)
    have hlt : ∀ i ∈ Dr ++ Ar, i < ops.size ∧ i ∉ T := fun i hi => by
      have := hmem i hi
      simp only [mselfB, Bool.and_eq_true, decide_eq_true_eq] at this
      exact this.1.2
    have hunl : ∀ i ∈ Dr ++ Ar, listed.getD i true = false := fun i hi => (hun i (hlt i hi).1 (hlt i hi).2).2 (List.mem_append.1 hi)
    -- what is ready does not wait for what has not come up
    have hready : ∀ i ∈ Region.ready .any ops listed, ∀ k, listed.getD k true = false → Region.waitsFor .any ops i k = false := fun i hi k hk => by
      cases hw : Region.waitsFor .any ops i k with
      | false => rfl
      | true =>
        obtain ⟨oj, hoj, e, he, hbd, hon⟩ := Region.waitsFor_spec hw
        obtain ⟨_, o, ho, hall⟩ := mem_ready.1 hi
        obtain rfl : o = oj := Option.some.inj (ho.symm.trans hoj)
        have := hall e he hbd
        rw [hon, getD_both hk] at this
        cases this
    constructor
    · -- the first of what is left is ready
      intro hnil
      exfalso
      obtain ⟨x, xs, hx⟩ : ∃ x xs, Dr ++ Ar = x :: xs := by
        cases hl : Dr ++ Ar with
        | nil => have := congrArg List.length hl; simp only [List.length_append, List.length_nil] at this; omega
        | cons x xs => exact ⟨x, xs, rfl⟩
      have hxm : x ∈ Dr ++ Ar := by rw [hx]; exact List.mem_cons_self ..
      have hsx := hmem x hxm
      have hself := hsx
      simp only [mselfB, Bool.and_eq_true, decide_eq_true_eq, Bool.not_eq_true'] at hsx
      obtain ⟨⟨hs1, hs2⟩, hs3⟩ := hsx
      cases ho : ops[x]? with
      | none => rw [ho] at hs3; cases hs3
      | some o =>
        rw [ho] at hs3
        have : x ∈ Region.ready .any ops listed := mem_ready.2 ⟨hunl x hxm, o, ho, fun e he hbd => by
          have h1 := (Array.all_eq_true'.1 hs3) e he
          simp only [hbd, Bool.not_true, Bool.false_or, decide_eq_true_eq] at h1
          cases hl : listed.getD e.on false with
          | true => rfl
          | false =>
            have hl' : listed.getD e.on true = false := getD_in (by rw [inv.size]; exact h1.1) hl
            have hin := (hun e.on h1.1 h1.2).1 hl'
            have hin' : e.on ∈ x :: xs := by rw [← hx]; exact List.mem_append.2 hin
            have hwt := waits_of ho he hbd rfl
            rcases List.mem_cons.1 hin' with hh | hh
            · rw [hh, hs1] at hwt; cases hwt
            · rw [hx] at hpw
              have := (List.pairwise_cons.1 hpw).1 _ hh
              rw [this.2.1] at hwt; cases hwt⟩
        rw [hnil] at this
        cases this
    · intro i hi
      have hiu := (mem_ready.1 hi).1
      obtain ⟨_, o, ho, _⟩ := mem_ready.1 hi
      have hisz : i < ops.size := (Array.getElem?_eq_some_iff.1 ho).1
      by_cases hin : i ∉ T
      · have hset : ∀ (X Y : List Nat), (∀ j, j < ops.size → j ∉ T → j ≠ i → ((j ∈ Dr ∨ j ∈ Ar) ↔ (j ∈ X ∨ j ∈ Y))) → i ∉ X → i ∉ Y → ∀ j, j < ops.size → j ∉ T → ((listed.setIfInBounds i true).getD j true = false ↔ j ∈ X ∨ j ∈ Y) := fun X Y hXY hX hY j hj hjT => by
          by_cases hji : i = j
          · subst hji
            have h1 : (listed.setIfInBounds i true).getD i true = true := by
              have : i < listed.size := by rw [inv.size]; exact hisz
              simp [this]
            rw [h1]
            simp [hX, hY]
          · rw [getD_set_ne true hji, hun j hj hjT, hXY j hj hjT (fun h => hji h.symm)]
        rcases (hun i hisz hin).1 hiu with hmD | hmA
        · obtain ⟨l1, l2, rfl⟩ := List.append_of_mem hmD
          have hpwD : List.Pairwise (Pr ops) (l1 ++ i :: l2) := hpw.sublist (List.sublist_append_left ..)
          have hap : ∀ k ∈ l1, apB ops k i = true := fun k hk => by
            have h1 := (List.pairwise_append.1 hpwD).2.2 k hk i (List.mem_cons_self ..)
            rcases h1.1 with h2 | h2
            · rw [hready i hi k (hunl k (List.mem_append_left _ (List.mem_append_left _ hk)))] at h2; cases h2
            · exact h2
          obtain ⟨o', v, ho', hy, hr⟩ := c_pick hsel l1 a hap h
          obtain rfl : o' = o := Option.some.inj (ho'.symm.trans ho)
          have hsl : (l1 ++ l2).Sublist (l1 ++ i :: l2) := (List.Sublist.refl l1).append (List.sublist_cons_self ..)
          have hni : i ∉ l1 ++ l2 ∧ i ∉ Ar := by
            have h1 := List.pairwise_append.1 hpwD
            refine ⟨fun hm' => ?_, fun hm' => ?_⟩
            · rcases List.mem_append.1 hm' with hm' | hm'
              · exact (h1.2.2 i hm' i (List.mem_cons_self ..)).2.2 rfl
              · exact ((List.pairwise_cons.1 h1.2.1).1 i hm').2.2 rfl
            · exact ((List.pairwise_append.1 hpw).2.2 i (by simp) i hm').2.2 rfl
          refine hy.op ho hb (fun w' hw' => ih _ _ w' (l1 ++ l2) (x0 :: Mr) S (by simp at hm ⊢; omega) (inv.set hi hin) (by rw [hAr]; exact hset _ _ (fun j _ _ hji => by simp [hji]) hni.1 hni.2) (hsl.trans hDr) hMr
            (hCE _ _ hb hw') (hmono _ _ hw' hs) hmono hr)
        · rw [← hAr] at hmA
          have hpw2 := List.pairwise_append.1 hpw
          obtain ⟨i0, R0⟩ := x0
          have hi0 : i = i0 := by
            rcases List.mem_cons.1 hmA with h1 | h1
            · exact h1
            · exfalso
              obtain ⟨y, hy, rfl⟩ := List.mem_map.1 h1
              have h2 := (List.pairwise_cons.1 (hM.sublist hMr)).1 y hy
              rw [hready y.1 hi i0 (hunl i0 (List.mem_append_right _ (by rw [← hAr]; exact List.mem_cons_self ..)))] at h2
              cases h2
          subst hi0
          have hapD : ∀ k ∈ Dr, apB ops k i = true := fun k hk => by
            have h1 := hpw2.2.2 k hk i (by rw [← hAr]; exact List.mem_cons_self ..)
            rcases h1.1 with h2 | h2
            · rw [hready i hi k (hunl k (List.mem_append_left _ hk))] at h2; cases h2
            · exact h2
          obtain ⟨a1, hf1, he1⟩ := c_out hsel ho Dr a hapD h
          obtain ⟨o', ho', hg, hmR, hrun1, _⟩ := hf1
          obtain rfl : o' = o := Option.some.inj (ho'.symm.trans ho)
          have hrun := runsAt_same he1.symm (hrun1 w hb hs)
          have hni : i ∉ Dr := fun hm' => (hpw2.2.2 i hm' i (by rw [← hAr]; exact List.mem_cons_self ..)).2.2 rfl
          have hni2 : i ∉ Mr.map Prod.fst := fun hm' => by
            have h3 := hpw2.2.1
            rw [← hAr] at h3
            exact ((List.pairwise_cons.1 h3).1 i hm').2.2 rfl
          refine runsAt_op ho hg hrun (fun v w' hv => ?_)
          refine ih _ _ w' Dr Mr (R0 v) (by simp at hm; omega) (inv.set hi hin) (hset _ _ (fun j _ _ hji => by rw [← hAr]; simp [hji]) hni hni2) hDr ((List.sublist_cons_self ..).trans hMr) hv.1 hv.2 (fun w1 w2 h12 h1 => hmR _ _ _ h12 h1) ?_
          refine wpC_mono ?_ _ _ (c_put hsel ho v Dr a hapD h)
          rintro a' ⟨a0, rfl, he0, hf0⟩
          obtain ⟨o2, ho2, _, _, _, hr2⟩ := hf0
          obtain rfl : o2 = o' := Option.some.inj (ho2.symm.trans ho)
          exact hr2 v
      · -- the tail waits
        exfalso
        have hin' : i ∈ T := by simpa using hin
        refine mtail_waits hsink hchain inv (L := Dr ++ Ar) hsub ?_ hunl (fun j hj hjT hju => ?_) i hin' hi
        · intro h0
          have := congrArg List.length h0
          simp only [List.length_append, List.length_nil] at this
          omega
        · exact List.mem_append.2 ((hun j hj hjT).1 hju)
/-- each waits for all ahead of it -/
def pwB (ops : Array Oper) : List Nat → Bool
  | [] => true
  | i :: l => (l.all fun k => Region.waitsFor .any ops k i) && pwB ops l
theorem pwB_spec {ops : Array Oper} : ∀ {M : List (Nat × Rel)}, pwB ops (M.map Prod.fst) = true → M.Pairwise fun x y => Region.waitsFor .any ops y.1 x.1 = true
  | [], _ => .nil
  | x :: M, h => by
    simp only [List.map_cons, pwB, Bool.and_eq_true, List.all_eq_true] at h
    exact List.pairwise_cons.2 ⟨fun y hy => h.1 y.1 (List.mem_map.2 ⟨y, hy, rfl⟩), pwB_spec h.2⟩
/-- **A region that draws its order, walked once, where of some operations only a relation is known and one turns old memory.** -/
theorem wp_region_chn {id : Nat} {l : List Oper} {Q : Exit → Act → World → Prop} {a : Act} (hCE : ∀ a b, C a → Ext a b → C b) (hCW : C W) (Pre D : List Nat) (M : List (Nat × Rel)) (T A : List Nat) (hA : M.map Prod.fst = A) (hM : pwB l.toArray A = true) (hm : P.follows .mixedOrders = true) (hB : mixB l.toArray Pre D A T = true)
    (hQ : ∀ c a d v w, Q (.panic c) (Act.put a d v) w → Q (.panic c) a w)
    (h : wpPre P l.toArray (fun a0 => wpC P C l.toArray (fun a' => wpCh P C l.toArray (fun a'' S' => ∀ w', C w' → S' w' → wpSeq P l.toArray Q T a'' w') M a' (fun _ => True)) D a0) Pre a) :
    (Code.region id l.toArray true).wp P Q a W := by
  subst hA
  simp only [mixB, Bool.and_eq_true, decide_eq_true_eq] at hB
  obtain ⟨⟨⟨⟨⟨⟨⟨⟨⟨⟨⟨hsel, hpre⟩, hp⟩, hs⟩, hk⟩, hch⟩, hsq⟩, hinv⟩, hsz⟩, htl⟩, hcov⟩, hlen⟩ := hB
  have hself := List.all_eq_true.1 hs
  refine wp_region_any hm ?_
  suffices key : wpAny P .any l.toArray Q (Pre.length + ((D.length + (M.map Prod.fst).length) + T.length)) (Array.replicate l.toArray.size false) a { W with drawn := W.drawn + 1 } by
    rw [show Pre.length + ((D.length + (M.map Prod.fst).length) + T.length) = l.toArray.size by omega] at key
    exact key
  refine wpAny_pre (fuel := (D.length + (M.map Prod.fst).length) + T.length) hsel hQ Pre _ a hpre (wpPre_mono ?_ _ _ h)
  intro a0 h0
  refine dcore (C := C) hCE (P := P) (ops := l.toArray) (Q := Q) (D := D) (M := M) (T := T) (Region.noSelect_spec hsel) (pairsB_spec _ hp) hself (fun t r e => by subst e; exact hk) (pwB_spec hM) hch hsq
    (D.length + (M.map Prod.fst).length) _ a0 W.drew D M (fun _ => True) (by rw [List.length_map]) ⟨hsz, fun j oj hj hl e he hb => ?_, fun t ht hts => ?_⟩ (fun i hi hiT => ?_)
    (List.Sublist.refl _) (List.Sublist.refl _) (hCE _ _ hCW (ext_drew (ext_refl _))) trivial (fun _ _ _ h => h) h0
  · have h1 := List.all_eq_true.1 hinv j (List.mem_range.2 (Array.getElem?_eq_some_iff.1 hj).1)
    simp only [hl, hj, Bool.not_true, Bool.false_or] at h1
    have h2 := (Array.all_eq_true'.1 h1) e he
    simpa [hb] using h2
  · have h1 := List.all_eq_true.1 htl t ht
    simp only [Bool.or_eq_true, Bool.not_eq_true', decide_eq_true_eq] at h1
    rcases h1 with h1 | h1
    · exact h1
    · omega
  · have h1 := List.all_eq_true.1 hcov i (List.mem_range.2 hi)
    simp only [Bool.or_eq_true, beq_iff_eq] at h1
    rcases h1 with h1 | h1
    · exact absurd (by simpa using h1) hiT
    · rw [h1]
      constructor
      · intro hh
        have h2 : (D ++ (M.map Prod.fst)).contains i = true := by simpa only [Bool.not_eq_false'] using hh
        simp only [List.contains_eq_mem, decide_eq_true_eq] at h2
        exact List.mem_append.1 h2
      · intro hh
        have h2 : (D ++ (M.map Prod.fst)).contains i = true := by
          simp only [List.contains_eq_mem, decide_eq_true_eq]
          exact List.mem_append.2 hh
        rw [h2]; rfl

end
end Go.Proofs.Ytojgbphmkloicaa
