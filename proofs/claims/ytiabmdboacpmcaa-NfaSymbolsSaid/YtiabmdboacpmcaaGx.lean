/- A drawn region with operations that make a block each, one that turns new memory, and a tail that draws its order. -/
import Derived.Test.YtiabmdboacpmcaaGv
namespace Go.Proofs.Ytiabmdboacpmcaa
open Go Go.RowKit Go.Sort

variable {P : Program} {ops : Array Oper} {W : World} {fp : Nat → Prop}
/-- an operation runs to its end, calling nothing -/
def doesAt (P : Program) (o : Oper) (a : Act) (w : World) (v : Value) (w' : World) : Prop := (execOp a.eval o).run P w = .ok (.value v) w' ∨ ((execOp a.eval o).run P w = .ok .skip w' ∧ v = undef)
theorem doesAt_same {o : Oper} {a a' : Act} {w w' : World} {v : Value} (he : execOp a'.eval o = execOp a.eval o) (h : doesAt P o a w v w') : doesAt P o a' w v w' := by
  unfold doesAt at *
  rw [he]
  exact h
theorem doesAt_runs {o : Oper} {a : Act} {w w1 : World} {v : Value} {R : Value → World → Prop} (h : doesAt P o a w v w1) (hR : R v w1) : runsAt P o a R w := by
  unfold runsAt
  rcases h with h | ⟨h, rfl⟩ <;> rw [h] <;> exact hR
def XFan (P : Program) (fp : Nat → Prop) (ops : Array Oper) (W : World) (Q : Exit → Act → World → Prop) (T : List Nat) (iM : Nat) (a : Act) (S : World → Prop) : Prop :=
  (∃ o, ops[iM]? = some o ∧ o.guard = none) ∧
  (∀ w, Ext W w → S w → ∀ o, ops[iM]? = some o → ∃ v w1, doesAt P o a w v w1 ∧ Upd fp w w1) ∧
  (∀ o, ops[iM]? = some o → ∀ v w0 w1 w', Ext W w0 → S w0 → doesAt P o a w0 v w1 → Upd fp w0 w1 → Ext w1 w' → wpAny P .any ops Q T.length (mcanon ops T) (a.put o.dst v) w')

theorem xcore {Q : Exit → Act → World → Prop} {D A0 T : List Nat} {iM : Nat} (hsel : ∀ (j : Nat) (o : Oper) cs b, ops[j]? = some o → o.op ≠ .select cs b)
    (hD : List.Pairwise (Pr ops) (D ++ (A0 ++ [iM]))) (hS : ∀ i ∈ D ++ (A0 ++ [iM]), mselfB ops T i = true) (hsink : ∀ t ∈ T, sinkL ops t (D ++ (A0 ++ [iM])) = true) (hM : ∀ g ∈ A0, Region.waitsFor .any ops iM g = true) :
    ∀ (m : Nat) (listed : Array Bool) (a : Act) (w : World) (Dr Gr ps : List Nat) (S : World → Prop), Dr.length + Gr.length + 1 = m → MInv ops T listed →
      (∀ i, i < ops.size → i ∉ T → (listed.getD i true = false ↔ i ∈ Dr ∨ i ∈ Gr ++ [iM])) → Dr.Sublist D → Gr.Sublist A0 → Ext W w → S w →
      (∀ w w', Ext w w' → S w → S w') → (∀ w, S w → ∀ p ∈ ps, p < w.heap.size) →
      wpU P fp ops W (fun a' => wpFresh P ops W (fun a'' S' => XFan P fp ops W Q T iM a'' S') Gr a' ps S) Dr a →
      wpAny P .any ops Q (m + T.length) listed a w := by
  have hF : ∀ (a : Act) (S S' : World → Prop), (∀ w, S' w → S w) → XFan P fp ops W Q T iM a S → XFan P fp ops W Q T iM a S' :=
    fun a S S' h h1 => ⟨h1.1, fun w hw hs => h1.2.1 w hw (h _ hs), fun o ho v w0 w1 w' hw hs => h1.2.2 o ho v w0 w1 w' hw (h _ hs)⟩
  intro m
  induction m with
  | zero =>
    intro listed a w Dr Gr ps S hm
    omega
  | succ m ih =>
    intro listed a w Dr Gr ps S hm inv hun hDr hGr hb hs hmono hps h
    rw [show m + 1 + T.length = (m + T.length) + 1 by omega]
    obtain ⟨Ar, hAr⟩ : ∃ Ar, Gr ++ [iM] = Ar := ⟨_, rfl⟩
    obtain ⟨A, hA⟩ : ∃ A, A0 ++ [iM] = A := ⟨_, rfl⟩
    have hlenA : Ar.length = Gr.length + 1 := by rw [← hAr, List.length_append]; rfl
    rw [hA] at hD hS hsink
    rw [hAr] at hun
    have hArs : Ar.Sublist A := by rw [← hAr, ← hA]; exact hGr.append (List.Sublist.refl _)
    have hsub : (Dr ++ Ar).Sublist (D ++ A) := hDr.append hArs
    have hpw : List.Pairwise (Pr ops) (Dr ++ Ar) := hD.sublist hsub
    have hmem : ∀ i ∈ Dr ++ Ar, mselfB ops T i = true := fun i hi => hS i (hsub.subset hi)
    have hlt : ∀ i ∈ Dr ++ Ar, i < ops.size ∧ i ∉ T := fun i hi => by
      have := hmem i hi
      simp only [mselfB, Bool.and_eq_true, decide_eq_true_eq] at this
      exact this.1.2
    have hunl : ∀ i ∈ Dr ++ Ar, listed.getD i true = false := fun i hi => (hun i (hlt i hi).1 (hlt i hi).2).2 (List.mem_append.1 hi)
    -- what is ready does not wait for what has not come up
    have hready : ∀ i ∈ Region.ready .any ops listed, ∀ k, listed.getD k true = false → Region.waitsFor .any ops i k = false := fun i hi k hk => by
      cases hw : Region.waitsFor .any ops i k with
      | false => rfl
      | true =>
        obtain ⟨oj, hoj, e, he, hbd, hon⟩ := Region.waitsFor_spec hw
        obtain ⟨_, o, ho, hall⟩ := mem_ready.1 hi
        obtain rfl : o = oj := Option.some.inj (ho.symm.trans hoj)
        have := hall e he hbd
        rw [hon, getD_both hk] at this
        cases this
    constructor
    · -- the first of what is left is ready
      intro hnil
      exfalso
      obtain ⟨x, xs, hx⟩ : ∃ x xs, Dr ++ Ar = x :: xs := by
        cases hl : Dr ++ Ar with
        | nil => have := congrArg List.length hl; simp only [List.length_append, List.length_nil] at this; omega
        | cons x xs => exact ⟨x, xs, rfl⟩
      have hxm : x ∈ Dr ++ Ar := by rw [hx]; exact List.mem_cons_self ..
      have hsx := hmem x hxm
      have hself := hsx
      simp only [mselfB, Bool.and_eq_true, decide_eq_true_eq, Bool.not_eq_true'] at hsx
      obtain ⟨⟨hs1, hs2⟩, hs3⟩ := hsx
      cases ho : ops[x]? with
      | none => rw [ho] at hs3; cases hs3
      | some o =>
        rw [ho] at hs3
        have : x ∈ Region.ready .any ops listed := mem_ready.2 ⟨hunl x hxm, o, ho, fun e he hbd => by
          have h1 := (Array.all_eq_true'.1 hs3) e he
          simp only [hbd, Bool.not_true, Bool.false_or, decide_eq_true_eq] at h1
          cases hl : listed.getD e.on false with
          | true => rfl
          | false =>
            have hl' : listed.getD e.on true = false := getD_in (by rw [inv.size]; exact h1.1) hl
            have hin := (hun e.on h1.1 h1.2).1 hl'
            have hin' : e.on ∈ x :: xs := by rw [← hx]; exact List.mem_append.2 hin
            have hwt := waits_of ho he hbd rfl
            rcases List.mem_cons.1 hin' with hh | hh
            · rw [hh, hs1] at hwt; cases hwt
            · rw [hx] at hpw
              have := (List.pairwise_cons.1 hpw).1 _ hh
              rw [this.2.1] at hwt; cases hwt⟩
        rw [hnil] at this
        cases this
    · intro i hi
      have hiu := (mem_ready.1 hi).1
      obtain ⟨_, o, ho, _⟩ := mem_ready.1 hi
      have hisz : i < ops.size := (Array.getElem?_eq_some_iff.1 ho).1
      by_cases hin : i ∉ T
      · have hset : ∀ (X Y : List Nat), (∀ j, j < ops.size → j ∉ T → j ≠ i → ((j ∈ Dr ∨ j ∈ Ar) ↔ (j ∈ X ∨ j ∈ Y))) → i ∉ X → i ∉ Y → ∀ j, j < ops.size → j ∉ T → ((listed.setIfInBounds i true).getD j true = false ↔ j ∈ X ∨ j ∈ Y) := fun X Y hXY hX hY j hj hjT => by
          by_cases hji : i = j
          · subst hji
            have h1 : (listed.setIfInBounds i true).getD i true = true := by
              have : i < listed.size := by rw [inv.size]; exact hisz
              simp [this]
            rw [h1]
            simp [hX, hY]
          · rw [getD_set_ne true hji, hun j hj hjT, hXY j hj hjT (fun h => hji h.symm)]
        rcases (hun i hisz hin).1 hiu with hmD | hmA
        · obtain ⟨l1, l2, rfl⟩ := List.append_of_mem hmD
          have hpwD : List.Pairwise (Pr ops) (l1 ++ i :: l2) := hpw.sublist (List.sublist_append_left ..)
          have hap : ∀ k ∈ l1, apB ops k i = true := fun k hk => by
            have h1 := (List.pairwise_append.1 hpwD).2.2 k hk i (List.mem_cons_self ..)
            rcases h1.1 with h2 | h2
            · rw [hready i hi k (hunl k (List.mem_append_left _ (List.mem_append_left _ hk)))] at h2; cases h2
            · exact h2
          obtain ⟨o', v, ho', hy, hr⟩ := u_pick hsel l1 a hap h
          obtain rfl : o' = o := Option.some.inj (ho'.symm.trans ho)
          have hsl : (l1 ++ l2).Sublist (l1 ++ i :: l2) := (List.Sublist.refl l1).append (List.sublist_cons_self ..)
          have hni : i ∉ l1 ++ l2 ∧ i ∉ Ar := by
            have h1 := List.pairwise_append.1 hpwD
            refine ⟨fun hm' => ?_, fun hm' => ?_⟩
            · rcases List.mem_append.1 hm' with hm' | hm'
              · exact (h1.2.2 i hm' i (List.mem_cons_self ..)).2.2 rfl
              · exact ((List.pairwise_cons.1 h1.2.1).1 i hm').2.2 rfl
            · exact ((List.pairwise_append.1 hpw).2.2 i (by simp) i hm').2.2 rfl
          refine hy.op ho (upd_of_ext hb) (fun w' hw' => ih _ _ w' (l1 ++ l2) Gr ps S (by simp at hm ⊢; omega) (inv.set hi hin) (by rw [hAr]; exact hset _ _ (fun j _ _ hji => by simp [hji]) hni.1 hni.2) (hsl.trans hDr) hGr
            (ext_trans hb hw') (hmono _ _ hw' hs) hmono hps hr)
        · rw [← hAr] at hmA
          refine Or.elim (List.mem_append.1 hmA).symm (fun hmA => ?_) (fun hmA => ?_)
          · obtain rfl : i = iM := by simpa using hmA
            have hGr0 : Gr = [] := by
              cases Gr with
              | nil => rfl
              | cons g r =>
                have h1 := hM g (hGr.subset (List.mem_cons_self ..))
                rw [hready i hi g (hunl g (by rw [← hAr]; simp))] at h1
                cases h1
            subst hGr0
            have hpw2 := List.pairwise_append.1 hpw
            have hapD : ∀ k ∈ Dr, apB ops k i = true := fun k hk => by
              have h1 := hpw2.2.2 k hk i (by rw [← hAr]; simp)
              rcases h1.1 with h2 | h2
              · rw [hready i hi k (hunl k (List.mem_append_left _ hk))] at h2; cases h2
              · exact h2
            obtain ⟨a1, hf1, he1⟩ := u_out hsel ho Dr a hapD h
            obtain ⟨⟨o', ho', hg⟩, hrun1, _⟩ := hf1
            obtain rfl : o' = o := Option.some.inj (ho'.symm.trans ho)
            obtain ⟨v1, wm, hdo1, hup1⟩ := hrun1 w hb hs _ ho
            have hdo := doesAt_same he1.symm hdo1
            have hrun : runsAt P o' a (fun v w' => Upd fp w w' ∧ doesAt P o' a w v w') w := doesAt_runs hdo ⟨hup1, hdo⟩
            have hni : i ∉ Dr := fun hm' => (hpw2.2.2 i hm' i (by rw [← hAr]; simp)).2.2 rfl
            refine runsAt_op ho hg hrun (fun v w' hv => ?_)
            have hm2 : Dr.length = m := by simp at hm; omega
            refine vcore1 (fp := fp) (W := W) (DA := D ++ A) hsel hD hS hsink m _ _ w' Dr (fun x => Ext w' x) hm2 (inv.set hi hin) (fun j hj hjT => ?_) (hDr.trans (List.sublist_append_left ..)) (upd_trans (upd_of_ext (fp := fp) hb) hv.1 (fun b hb' h => h)) (ext_refl w') (fun w1 w2 h12 h1 => ext_trans h1 h12) ?_
            · have := hset Dr [] (fun j' _ _ hji => by rw [← hAr]; simp [hji]) hni (by simp) j hj hjT
              simpa using this
            · refine wpU_mono ?_ _ _ (u_put hsel ho v Dr a hapD h)
              rintro a' ⟨a0, rfl, he0, hf0⟩
              exact fun w1 hw1 hs1 => hf0.2.2 _ ho v w w' w1 hb hs (doesAt_same (by first | exact he0 | exact he0.symm) hv.2) hv.1 hs1
          obtain ⟨l1, l2, rfl⟩ := List.append_of_mem hmA
          have hAr' : Ar = l1 ++ i :: (l2 ++ [iM]) := by rw [← hAr]; simp
          have hpw2 := List.pairwise_append.1 hpw
          have hapD : ∀ k ∈ Dr, apB ops k i = true := fun k hk => by
            have h1 := hpw2.2.2 k hk i (by rw [hAr']; simp)
            rcases h1.1 with h2 | h2
            · rw [hready i hi k (hunl k (List.mem_append_left _ hk))] at h2; cases h2
            · exact h2
          have hapA : ∀ k ∈ l1, apB ops k i = true := fun k hk => by
            have h3 := hpw2.2.1
            rw [hAr'] at h3
            have h1 := (List.pairwise_append.1 h3).2.2 k hk i (List.mem_cons_self ..)
            rcases h1.1 with h2 | h2
            · rw [hready i hi k (hunl k (List.mem_append_right _ (by rw [hAr']; exact List.mem_append_left _ hk)))] at h2; cases h2
            · exact h2
          have hpickA := fun (a' : Act) (hh : wpFresh P ops W (fun a'' S' => XFan P fp ops W Q T iM a'' S') (l1 ++ i :: l2) a' ps S) => fresh_pick hsel hF l1 a' ps S hapA hh
          obtain ⟨a1, hf1, he1⟩ := u_out hsel ho Dr a hapD h
          obtain ⟨o', mk, obj, ho', hg, hfr1, _⟩ := hpickA a1 hf1
          obtain rfl : o' = o := Option.some.inj (ho'.symm.trans ho)
          have hfr : freshAt P W o' a mk obj := fun p => by rw [← he1]; exact hfr1 p
          obtain ⟨p0, hp0⟩ := regrown_of_below hb
          have hrun := hfr p0
          rw [← hp0] at hrun
          have hfresh : w.heap.size ∉ ps := fun hm' => by have := hps w hs _ hm'; omega
          have hW0 : W.heap.size ≤ w.heap.size := ext_size hb
          have hb1 : Ext w (w.alloc obj) := ext_alloc (ext_refl _) _
          unfold wpOp
          simp only [ho]
          rw [if_pos (by simp [Region.wanted, hg])]
          refine .inl ?_
          unfold Oper.wp
          rw [hrun]
          simp only [Oper.upon]
          have hsl : (l1 ++ l2).Sublist (l1 ++ i :: l2) := (List.Sublist.refl l1).append (List.sublist_cons_self ..)
          have hni : i ∉ Dr ∧ i ∉ (l1 ++ l2) ++ [iM] := by
            have h3 := hpw2.2.1
            rw [hAr'] at h3
            have h1 := List.pairwise_append.1 h3
            refine ⟨fun hm' => (hpw2.2.2 i hm' i (by rw [hAr']; simp)).2.2 rfl, fun hm' => ?_⟩
            rw [List.append_assoc] at hm'
            rcases List.mem_append.1 hm' with hm' | hm'
            · exact (h1.2.2 i hm' i (List.mem_cons_self ..)).2.2 rfl
            · exact ((List.pairwise_cons.1 h1.2.1).1 i hm').2.2 rfl
          refine ih _ _ (w.alloc obj) Dr (l1 ++ l2) (w.heap.size :: ps) (fun w' => S w' ∧ w'.heap[w.heap.size]? = some obj) (by simp at hm ⊢; omega) (inv.set hi hin) (hset _ _ (fun j _ _ hji => by rw [hAr']; simp [hji]) hni.1 hni.2) hDr (hsl.trans hGr)
            (ext_trans hb hb1) ⟨hmono _ _ hb1 hs, heap_alloc_new w obj⟩ (fun w1 w2 h12 h1 => ⟨hmono _ _ h12 h1.1, by
              rw [ext_block h12 (Array.getElem?_eq_some_iff.1 h1.2).1]; exact h1.2⟩) (fun w1 h1 p hp => ?_) ?_
          · rcases List.mem_cons.1 hp with rfl | hp
            · exact (Array.getElem?_eq_some_iff.1 h1.2).1
            · exact hps w1 h1.1 p hp
          · refine wpU_mono ?_ _ _ (u_put hsel ho (mk w.heap.size) Dr a hapD h)
            rintro a' ⟨a0, rfl, he0, hf0⟩
            obtain ⟨o2, mk2, obj2, ho2, _, hfr2, hr2⟩ := hpickA a0 hf0
            obtain rfl : o2 = o' := Option.some.inj (ho2.symm.trans ho)
            obtain ⟨e1, e2⟩ := freshAt_unique he0 hfr hfr2
            have := hr2 w.heap.size hW0 hfresh
            rw [e2 _ hW0, e1] at this
            exact this
      · -- the tail waits
        exfalso
        have hin' : i ∈ T := by simpa using hin
        refine mtail_waits2 hsink inv (L := Dr ++ Ar) hsub ?_ hunl (fun j hj hjT hju => ?_) i hin' hi
        · intro h0
          have := congrArg List.length h0
          simp only [List.length_append, List.length_nil] at this
          omega
        · exact List.mem_append.2 ((hun j hj hjT).1 hju)



theorem wp_region_fresh {id : Nat} {l : List Oper} {Q : Exit → Act → World → Prop} {a : Act} (Pre D : List Nat) (A0 : List Nat) (iM : Nat) (T A : List Nat) (hA : A0 ++ [iM] = A) (hM : (A0.all fun g => Region.waitsFor .any l.toArray iM g) = true) (hm : P.follows .mixedOrders = true) (hB : mixF l.toArray Pre D A T = true)
    (hQ : ∀ c a d v w, Q (.panic c) (Act.put a d v) w → Q (.panic c) a w)
    (h : wpPre P l.toArray (fun a0 => wpU P fp l.toArray W (fun a' => wpFresh P l.toArray W (fun a'' S' => XFan P fp l.toArray W Q T iM a'' S') A0 a' [] (fun _ => True)) D a0) Pre a) :
    (Code.region id l.toArray true).wp P Q a W := by
  subst hA
  simp only [mixF, Bool.and_eq_true, decide_eq_true_eq] at hB
  obtain ⟨⟨⟨⟨⟨⟨⟨⟨⟨hsel, hpre⟩, hp⟩, hs⟩, hk⟩, hinv⟩, hsz⟩, htl⟩, hcov⟩, hlen⟩ := hB
  have hself := List.all_eq_true.1 hs
  refine wp_region_any hm ?_
  suffices key : wpAny P .any l.toArray Q (Pre.length + ((D.length + (A0 ++ [iM]).length) + T.length)) (Array.replicate l.toArray.size false) a { W with drawn := W.drawn + 1 } by
    rw [show Pre.length + ((D.length + (A0 ++ [iM]).length) + T.length) = l.toArray.size by omega] at key
    exact key
  refine wpAny_pre (fuel := (D.length + (A0 ++ [iM]).length) + T.length) hsel hQ Pre _ a hpre (wpPre_mono ?_ _ _ h)
  intro a0 h0
  refine xcore (fp := fp) (iM := iM) (P := P) (ops := l.toArray) (W := W) (Q := Q) (D := D) (A0 := A0) (T := T) (Region.noSelect_spec hsel) (pairsB_spec _ hp) hself (fun t ht => List.all_eq_true.1 hk t ht) (fun g hg => by simpa using List.all_eq_true.1 hM g hg)
    (D.length + (A0 ++ [iM]).length) _ a0 W.drew D A0 [] (fun _ => True) (by rw [List.length_append]; rfl) ⟨hsz, fun j oj hj hl e he hb => ?_, fun t ht hts => ?_⟩ (fun i hi hiT => ?_)
    (List.Sublist.refl _) (List.Sublist.refl _) (ext_drew (ext_refl _)) trivial (fun _ _ _ _ => trivial) (fun _ _ _ hp => by cases hp) h0
  · have h1 := List.all_eq_true.1 hinv j (List.mem_range.2 (Array.getElem?_eq_some_iff.1 hj).1)
    simp only [hl, hj, Bool.not_true, Bool.false_or] at h1
    have h2 := (Array.all_eq_true'.1 h1) e he
    simpa [hb] using h2
  · have h1 := List.all_eq_true.1 htl t ht
    simp only [Bool.or_eq_true, Bool.not_eq_true', decide_eq_true_eq] at h1
    rcases h1 with h1 | h1
    · exact h1
    · omega
  · have h1 := List.all_eq_true.1 hcov i (List.mem_range.2 hi)
    simp only [Bool.or_eq_true, beq_iff_eq] at h1
    rcases h1 with h1 | h1
    · exact absurd (by simpa using h1) hiT
    · rw [h1]
      constructor
      · intro hh
        have h2 : (D ++ (A0 ++ [iM])).contains i = true := by simpa only [Bool.not_eq_false'] using hh
        simp only [List.contains_eq_mem, decide_eq_true_eq] at h2
        exact List.mem_append.1 h2
      · intro hh
        have h2 : (D ++ (A0 ++ [iM])).contains i = true := by
          simp only [List.contains_eq_mem, decide_eq_true_eq]
          exact List.mem_append.2 hh
        rw [h2]; rfl


end Go.Proofs.Ytiabmdboacpmcaa
