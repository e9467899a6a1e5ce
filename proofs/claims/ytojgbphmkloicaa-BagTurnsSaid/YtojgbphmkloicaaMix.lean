/- A region that draws its order, walked once: operations that look at no world; operations whose value does not hang on the order; operations that make one new block; a tail in forced order. -/
import Derived.Test.YtojgbphmkloicaaFree
namespace Go.Proofs.Ytojgbphmkloicaa
open Go Go.RowKit Go.Sort

section
variable {P : Program} {ops : Array Oper} {W : World}

def wpSeq (P : Program) (ops : Array Oper) (Q : Exit → Act → World → Prop) : List Nat → Act → World → Prop
  | [], a, w => Q .normal a w
  | i :: l, a, w => wpOp P ops Q i (wpSeq P ops Q l) a w
theorem wpSeq_of_list {Q : Exit → Act → World → Prop} : ∀ (T : List Nat) (l : List Oper) (a : Act) (w : World), (T.map fun i => ops[i]?) = l.map some → wpList P ops Q l a w → wpSeq P ops Q T a w
  | [], [], _, _, _, h => h
  | [], _ :: _, _, _, h, _ => by simp at h
  | _ :: _, [], _, _, h, _ => by simp at h
  | i :: T, o :: l, a, w, h, hl => by
    simp only [List.map_cons, List.cons.injEq] at h
    have ho : ops[i]? = some o := h.1
    have : wpOp P ops Q i (wpList P ops Q l) a w := by unfold wpOp; simp only [ho]; exact hl
    exact wpOp_mono (fun a' w' h' => wpSeq_of_list T l a' w' h.2 h') this
def seqL (ops : Array Oper) : List Nat → Array Bool → Bool
  | [], listed => (Region.ready .any ops listed).isEmpty
  | t :: l, listed => decide (Region.ready .any ops listed = [t]) && seqL ops l (listed.setIfInBounds t true)
theorem wpAny_of_seqL {Q : Exit → Act → World → Prop} : ∀ (T : List Nat) (listed : Array Bool) (a : Act) (w : World), seqL ops T listed = true → wpSeq P ops Q T a w → wpAny P .any ops Q T.length listed a w
  | [], _, _, _, hB, h => ⟨by simpa [seqL] using hB, h⟩
  | t :: l, listed, a, w, hB, h => by
    simp only [seqL, Bool.and_eq_true, decide_eq_true_eq] at hB
    refine ⟨fun h1 => (by rw [hB.1] at h1; cases h1), fun i hi => ?_⟩
    rw [hB.1] at hi
    have hik : i = t := by simpa using hi
    subst hik
    exact wpOp_mono (fun a' w' h' => wpAny_of_seqL l _ a' w' hB.2 h') h

def mcanon (ops : Array Oper) (T : List Nat) : Array Bool := (Array.range ops.size).map (fun i => decide (i ∉ T))
def mselfB (ops : Array Oper) (T : List Nat) (i : Nat) : Bool :=
  !Region.waitsFor .any ops i i && decide (i < ops.size ∧ i ∉ T) && (match ops[i]? with | some o => o.after.all (fun e => !Region.binds .any e || decide (e.on < ops.size ∧ e.on ∉ T)) | none => false)
def sinkL (ops : Array Oper) (t : Nat) : List Nat → Bool
  | [] => true
  | i :: l => (Region.waitsFor .any ops t i || l.any (fun j => Region.waitsFor .any ops j i)) && sinkL ops t l
def chainL (ops : Array Oper) : List Nat → Bool
  | t :: u :: l => Region.waitsFor .any ops u t && chainL ops (u :: l)
  | _ => true
structure MInv (ops : Array Oper) (T : List Nat) (listed : Array Bool) : Prop where
  size : listed.size = ops.size
  closed : ∀ j oj, ops[j]? = some oj → listed.getD j false = true → ∀ e ∈ oj.after, Region.binds .any e = true → listed.getD e.on false = true
  tail : ∀ t, t ∈ T → t < ops.size → listed.getD t true = false
theorem MInv.set {T : List Nat} {listed : Array Bool} {i : Nat} (inv : MInv ops T listed) (hi : i ∈ Region.ready .any ops listed) (hin : i ∉ T) : MInv ops T (listed.setIfInBounds i true) := by
  obtain ⟨_, oi, hoi, hall⟩ := mem_ready.1 hi
  refine ⟨by simp [inv.size], fun j oj hj hl e he hb => ?_, fun t ht ht' => by
    have hne : i ≠ t := fun h => hin (by rw [h]; exact ht)
    rw [getD_set_ne true hne]; exact inv.tail t ht ht'⟩
  by_cases hij : i = j
  · subst hij
    obtain rfl : oj = oi := Option.some.inj (hj.symm.trans hoi)
    exact getD_set_true (hall e he hb)
  · rw [getD_set_ne false hij] at hl
    exact getD_set_true (inv.closed j oj hj hl e he hb)

/-- whoever waits for one that has not come up has not come up -/
theorem waits_un {T : List Nat} {listed : Array Bool} (inv : MInv ops T listed) {i j : Nat} (hw : Region.waitsFor .any ops j i = true) (hi : listed.getD i false = false) : listed.getD j false = false := by
  cases hl : listed.getD j false with
  | false => rfl
  | true =>
    obtain ⟨oj, hoj, e, he, hb, hon⟩ := Region.waitsFor_spec hw
    have := inv.closed j oj hoj hl e he hb
    rw [hon, hi] at this
    cases this
theorem sink_spec {T : List Nat} {listed : Array Bool} (inv : MInv ops T listed) {t : Nat} : ∀ (L : List Nat), sinkL ops t L = true → (∃ i ∈ L, listed.getD i false = false) → ∃ i ∈ L, listed.getD i false = false ∧ Region.waitsFor .any ops t i = true
  | [], _, ⟨i, hi, _⟩ => by cases hi
  | i :: l, hB, ⟨x, hx, hxu⟩ => by
    simp only [sinkL, Bool.and_eq_true, Bool.or_eq_true] at hB
    by_cases hex : ∃ y ∈ l, listed.getD y false = false
    · obtain ⟨y, hy, h⟩ := sink_spec inv l hB.2 hex
      exact ⟨y, List.mem_cons_of_mem _ hy, h⟩
    · rcases List.mem_cons.1 hx with rfl | hx
      · rcases hB.1 with h | h
        · exact ⟨x, List.mem_cons_self .., hxu, h⟩
        · obtain ⟨j, hj, hw⟩ := List.any_eq_true.1 h
          exact absurd ⟨j, hj, waits_un inv hw hxu⟩ hex
      · exact absurd ⟨x, hx, hxu⟩ hex
theorem chain_spec {listed : Array Bool} : ∀ (T : List Nat), chainL ops T = true → (∀ t ∈ T, listed.getD t false = false) → ∀ t l, T = t :: l → ∀ u ∈ l, ∃ k, listed.getD k false = false ∧ Region.waitsFor .any ops u k = true
  | [], _, _, t, l, h => by cases h
  | [x], _, _, t, l, h => by cases h; intro u hu; cases hu
  | x :: y :: r, hB, hun, t, l, h => by
    cases h
    simp only [chainL, Bool.and_eq_true] at hB
    intro u hu
    rcases List.mem_cons.1 hu with rfl | hu
    · exact ⟨x, hun x (List.mem_cons_self ..), hB.1⟩
    · exact chain_spec (y :: r) hB.2 (fun z hz => hun z (List.mem_cons_of_mem _ hz)) y r rfl u hu
theorem not_ready_of_waits {listed : Array Bool} {i k : Nat} (hw : Region.waitsFor .any ops i k = true) (hk : listed.getD k false = false) : i ∉ Region.ready .any ops listed := fun hi => by
  obtain ⟨oj, hoj, e, he, hbd, hon⟩ := Region.waitsFor_spec hw
  obtain ⟨_, o, ho, hall⟩ := mem_ready.1 hi
  obtain rfl : o = oj := Option.some.inj (ho.symm.trans hoj)
  have := hall e he hbd
  rw [hon, hk] at this
  cases this
theorem mtail_waits {T DA L : List Nat} {listed : Array Bool} (hsink : ∀ t l, T = t :: l → sinkL ops t DA = true) (hchain : chainL ops T = true) (inv : MInv ops T listed) (hsub : L.Sublist DA) (hne : L ≠ [])
    (hunl : ∀ i ∈ L, listed.getD i true = false) (_hall : ∀ j, j < ops.size → j ∉ T → listed.getD j true = false → j ∈ L) : ∀ i ∈ T, i ∉ Region.ready .any ops listed := by
  intro i hi hr
  cases T with
  | nil => cases hi
  | cons t l =>
    obtain ⟨x, hx⟩ := List.exists_mem_of_ne_nil L hne
    have hmem := mem_ready.1 hr
    rcases List.mem_cons.1 hi with rfl | hi'
    · obtain ⟨y, _, hyu, hw⟩ := sink_spec inv DA (hsink i l rfl) ⟨x, hsub.subset hx, getD_both (hunl x hx)⟩
      exact not_ready_of_waits hw hyu hr
    · by_cases hall : ∀ z ∈ (t :: l), listed.getD z false = false
      · obtain ⟨k, hk, hw⟩ := chain_spec (t :: l) hchain hall t l rfl i hi'
        exact not_ready_of_waits hw hk hr
      · refine hall (fun z hz => ?_)
        rcases Nat.lt_or_ge z ops.size with h | h
        · exact getD_both (inv.tail z hz h)
        · simp [Array.getElem?_eq_none (show listed.size ≤ z by rw [inv.size]; exact h)]

theorem mcore {Q : Exit → Act → World → Prop} {D A T : List Nat} (hsel : ∀ (j : Nat) (o : Oper) cs b, ops[j]? = some o → o.op ≠ .select cs b)
    (hD : List.Pairwise (Pr ops) (D ++ A)) (hS : ∀ i ∈ D ++ A, mselfB ops T i = true) (hsink : ∀ t l, T = t :: l → sinkL ops t (D ++ A) = true) (hchain : chainL ops T = true) (hseq : seqL ops T (mcanon ops T) = true) :
    ∀ (m : Nat) (listed : Array Bool) (a : Act) (w : World) (Dr Ar ps : List Nat) (S : World → Prop), Dr.length + Ar.length = m → MInv ops T listed →
      (∀ i, i < ops.size → i ∉ T → (listed.getD i true = false ↔ i ∈ Dr ∨ i ∈ Ar)) → Dr.Sublist D → Ar.Sublist A → Ext W w → S w →
      (∀ w w', Ext w w' → S w → S w') → (∀ w, S w → ∀ p ∈ ps, p < w.heap.size) →
      wpLoose P ops W (fun a' => wpFresh P ops W (fun a'' S' => ∀ w', Ext W w' → S' w' → wpSeq P ops Q T a'' w') Ar a' ps S) Dr a →
      wpAny P .any ops Q (m + T.length) listed a w := by
  have hF : ∀ (a : Act) (S S' : World → Prop), (∀ w, S' w → S w) → (∀ w', Ext W w' → S w' → wpSeq P ops Q T a w') → (∀ w', Ext W w' → S' w' → wpSeq P ops Q T a w') :=
    fun a S S' h h1 w' hw hs => h1 w' hw (h _ hs)
  intro m
  induction m with
  | zero =>
    intro listed a w Dr Ar ps S hm inv hun hDr hAr hb hs hmono hps h
    obtain rfl : Dr = [] := List.eq_nil_of_length_eq_zero (by omega)
    obtain rfl : Ar = [] := List.eq_nil_of_length_eq_zero (by omega)
    have h' : wpSeq P ops Q T a w := h w hb hs
    have hc : listed = mcanon ops T := by
      apply Array.ext_getElem?
      intro i
      by_cases hi : i < ops.size
      · have hl : i < listed.size := by rw [inv.size]; exact hi
        by_cases hin : i ∈ T
        · have h1 := inv.tail i hin hi
          simp [mcanon, hi, hin, hl] at h1 ⊢
          exact h1
        · have h1 := hun i hi hin
          simp only [List.not_mem_nil, or_self, iff_false, Bool.not_eq_false] at h1
          simp [mcanon, hi, hin, hl] at h1 ⊢
          exact h1
      · rw [Array.getElem?_eq_none (by rw [inv.size]; omega), Array.getElem?_eq_none (by simp [mcanon]; omega)]
    rw [Nat.zero_add]
    exact wpAny_of_seqL T listed a w (by rw [hc]; exact hseq) h'
  | succ m ih =>
    intro listed a w Dr Ar ps S hm inv hun hDr hAr hb hs hmono hps h
    rw [show m + 1 + T.length = (m + T.length) + 1 by omega]
    have hsub : (Dr ++ Ar).Sublist (D ++ A) := hDr.append hAr
    have hpw : List.Pairwise (Pr ops) (Dr ++ Ar) := hD.sublist hsub
    have hmem : ∀ i ∈ Dr ++ Ar, mselfB ops T i = true := fun i hi => hS i (hsub.subset hi)
    have hlt : ∀ i ∈ Dr ++ Ar, i < ops.size ∧ i ∉ T := fun i hi => by
      have := hmem i hi
      simp only [mselfB, Bool.and_eq_true, decide_eq_true_eq] at this
      exact this.1.2
    have hunl : ∀ i ∈ Dr ++ Ar, listed.getD i true = false := fun i hi => (hun i (hlt i hi).1 (hlt i hi).2).2 (List.mem_append.1 hi)
    -- what is ready does not wait for what has not come up
    have hready : ∀ i ∈ Region.ready .any ops listed, ∀ k, listed.getD k true = false → Region.waitsFor .any ops i k = false := fun i hi k hk => by
      cases hw : Region.waitsFor .any ops i k with
      | false => rfl
      | true =>
        obtain ⟨oj, hoj, e, he, hbd, hon⟩ := Region.waitsFor_spec hw
        obtain ⟨_, o, ho, hall⟩ := mem_ready.1 hi
        obtain rfl : o = oj := Option.some.inj (ho.symm.trans hoj)
        have := hall e he hbd
        rw [hon, getD_both hk] at this
        cases this
    constructor
    · -- the first of what is left is ready
      intro hnil
      exfalso
      obtain ⟨x, xs, hx⟩ : ∃ x xs, Dr ++ Ar = x :: xs := by
        cases hl : Dr ++ Ar with
        | nil => have := congrArg List.length hl; simp only [List.length_append, List.length_nil] at this; omega
        | cons x xs => exact ⟨x, xs, rfl⟩
      have hxm : x ∈ Dr ++ Ar := by rw [hx]; exact List.mem_cons_self ..
      have hsx := hmem x hxm
      have hself := hsx
      simp only [mselfB, Bool.and_eq_true, decide_eq_true_eq, Bool.not_eq_true'] at hsx
      obtain ⟨⟨hs1, hs2⟩, hs3⟩ := hsx
      cases ho : ops[x]? with
      | none => rw [ho] at hs3; cases hs3
      | some o =>
        rw [ho] at hs3
        have : x ∈ Region.ready .any ops listed := mem_ready.2 ⟨hunl x hxm, o, ho, fun e he hbd => by
          have h1 := (Array.all_eq_true'.1 hs3) e he
          simp only [hbd, Bool.not_true, Bool.false_or, decide_eq_true_eq] at h1
          cases hl : listed.getD e.on false with
          | true => rfl
          | false =>
            have hl' : listed.getD e.on true = false := getD_in (by rw [inv.size]; exact h1.1) hl
            have hin := (hun e.on h1.1 h1.2).1 hl'
            have hin' : e.on ∈ x :: xs := by rw [← hx]; exact List.mem_append.2 hin
            have hwt := waits_of ho he hbd rfl
            rcases List.mem_cons.1 hin' with hh | hh
            · rw [hh, hs1] at hwt; cases hwt
            · rw [hx] at hpw
              have := (List.pairwise_cons.1 hpw).1 _ hh
              rw [this.2.1] at hwt; cases hwt⟩
        rw [hnil] at this
        cases this
    · intro i hi
      have hiu := (mem_ready.1 hi).1
      obtain ⟨_, o, ho, _⟩ := mem_ready.1 hi
      have hisz : i < ops.size := (Array.getElem?_eq_some_iff.1 ho).1
      by_cases hin : i ∉ T
      · have hset : ∀ (X Y : List Nat), (∀ j, j < ops.size → j ∉ T → j ≠ i → ((j ∈ Dr ∨ j ∈ Ar) ↔ (j ∈ X ∨ j ∈ Y))) → i ∉ X → i ∉ Y → ∀ j, j < ops.size → j ∉ T → ((listed.setIfInBounds i true).getD j true = false ↔ j ∈ X ∨ j ∈ Y) := fun X Y hXY hX hY j hj hjT => by
          by_cases hji : i = j
          · subst hji
            have h1 : (listed.setIfInBounds i true).getD i true = true := by
              have : i < listed.size := by rw [inv.size]; exact hisz
              simp [this]
            rw [h1]
            simp [hX, hY]
          · rw [getD_set_ne true hji, hun j hj hjT, hXY j hj hjT (fun h => hji h.symm)]
        rcases (hun i hisz hin).1 hiu with hmD | hmA
        · obtain ⟨l1, l2, rfl⟩ := List.append_of_mem hmD
          have hpwD : List.Pairwise (Pr ops) (l1 ++ i :: l2) := hpw.sublist (List.sublist_append_left ..)
          have hap : ∀ k ∈ l1, apB ops k i = true := fun k hk => by
            have h1 := (List.pairwise_append.1 hpwD).2.2 k hk i (List.mem_cons_self ..)
            rcases h1.1 with h2 | h2
            · rw [hready i hi k (hunl k (List.mem_append_left _ (List.mem_append_left _ hk)))] at h2; cases h2
            · exact h2
          obtain ⟨o', v, ho', hy, hr⟩ := loose_pick hsel l1 a hap h
          obtain rfl : o' = o := Option.some.inj (ho'.symm.trans ho)
          have hsl : (l1 ++ l2).Sublist (l1 ++ i :: l2) := (List.Sublist.refl l1).append (List.sublist_cons_self ..)
          have hni : i ∉ l1 ++ l2 ∧ i ∉ Ar := by
            have h1 := List.pairwise_append.1 hpwD
            refine ⟨fun hm' => ?_, fun hm' => ?_⟩
            · rcases List.mem_append.1 hm' with hm' | hm'
              · exact (h1.2.2 i hm' i (List.mem_cons_self ..)).2.2 rfl
              · exact ((List.pairwise_cons.1 h1.2.1).1 i hm').2.2 rfl
            · exact ((List.pairwise_append.1 hpw).2.2 i (by simp) i hm').2.2 rfl
          refine hy.op ho hb (fun w' hw' => ih _ _ w' (l1 ++ l2) Ar ps S (by simp at hm ⊢; omega) (inv.set hi hin) (hset _ _ (fun j _ _ hji => by simp [hji]) hni.1 hni.2) (hsl.trans hDr) hAr
            (ext_trans hb hw') (hmono _ _ hw' hs) hmono hps hr)
        · obtain ⟨l1, l2, rfl⟩ := List.append_of_mem hmA
          have hpw2 := List.pairwise_append.1 hpw
          have hapD : ∀ k ∈ Dr, apB ops k i = true := fun k hk => by
            have h1 := hpw2.2.2 k hk i (by simp)
            rcases h1.1 with h2 | h2
            · rw [hready i hi k (hunl k (List.mem_append_left _ hk))] at h2; cases h2
            · exact h2
          have hapA : ∀ k ∈ l1, apB ops k i = true := fun k hk => by
            have h1 := (List.pairwise_append.1 hpw2.2.1).2.2 k hk i (List.mem_cons_self ..)
            rcases h1.1 with h2 | h2
            · rw [hready i hi k (hunl k (by simp [hk]))] at h2; cases h2
            · exact h2
          have hpickA := fun (a' : Act) (hh : wpFresh P ops W (fun a'' S' => ∀ w', Ext W w' → S' w' → wpSeq P ops Q T a'' w') (l1 ++ i :: l2) a' ps S) => fresh_pick hsel hF l1 a' ps S hapA hh
          obtain ⟨a1, hf1, he1⟩ := loose_out hsel ho Dr a hapD h
          obtain ⟨o', mk, obj, ho', hg, hfr1, _⟩ := hpickA a1 hf1
          obtain rfl : o' = o := Option.some.inj (ho'.symm.trans ho)
          have hfr : freshAt P W o' a mk obj := fun p => by rw [← he1]; exact hfr1 p
          obtain ⟨p0, hp0⟩ := regrown_of_below hb
          have hrun := hfr p0
          rw [← hp0] at hrun
          have hfresh : w.heap.size ∉ ps := fun hm' => by have := hps w hs _ hm'; omega
          have hW0 : W.heap.size ≤ w.heap.size := ext_size hb
          have hb1 : Ext w (w.alloc obj) := ext_alloc (ext_refl _) _
          unfold wpOp
          simp only [ho]
          rw [if_pos (by simp [Region.wanted, hg])]
          refine .inl ?_
          unfold Oper.wp
          rw [hrun]
          simp only [Oper.upon]
          have hsl : (l1 ++ l2).Sublist (l1 ++ i :: l2) := (List.Sublist.refl l1).append (List.sublist_cons_self ..)
          have hni : i ∉ Dr ∧ i ∉ l1 ++ l2 := by
            have h1 := List.pairwise_append.1 hpw2.2.1
            refine ⟨fun hm' => (hpw2.2.2 i hm' i (by simp)).2.2 rfl, fun hm' => ?_⟩
            rcases List.mem_append.1 hm' with hm' | hm'
            · exact (h1.2.2 i hm' i (List.mem_cons_self ..)).2.2 rfl
            · exact ((List.pairwise_cons.1 h1.2.1).1 i hm').2.2 rfl
          refine ih _ _ (w.alloc obj) Dr (l1 ++ l2) (w.heap.size :: ps) (fun w' => S w' ∧ w'.heap[w.heap.size]? = some obj) (by simp at hm ⊢; omega) (inv.set hi hin) (hset _ _ (fun j _ _ hji => by simp [hji]) hni.1 hni.2) hDr (hsl.trans hAr)
            (ext_trans hb hb1) ⟨hmono _ _ hb1 hs, heap_alloc_new w obj⟩ (fun w1 w2 h12 h1 => ⟨hmono _ _ h12 h1.1, by
              rw [ext_block h12 (Array.getElem?_eq_some_iff.1 h1.2).1]; exact h1.2⟩) (fun w1 h1 p hp => ?_) ?_
          · rcases List.mem_cons.1 hp with rfl | hp
            · exact (Array.getElem?_eq_some_iff.1 h1.2).1
            · exact hps w1 h1.1 p hp
          · refine wpLoose_mono ?_ _ _ (loose_put hsel ho (mk w.heap.size) Dr a hapD h)
            rintro a' ⟨a0, rfl, he0, hf0⟩
            obtain ⟨o2, mk2, obj2, ho2, _, hfr2, hr2⟩ := hpickA a0 hf0
            obtain rfl : o2 = o' := Option.some.inj (ho2.symm.trans ho)
            obtain ⟨e1, e2⟩ := freshAt_unique he0 hfr hfr2
            have := hr2 w.heap.size hW0 hfresh
            rw [e2 _ hW0, e1] at this
            exact this
      · -- the tail waits
        exfalso
        have hin' : i ∈ T := by simpa using hin
        refine mtail_waits hsink hchain inv (L := Dr ++ Ar) hsub ?_ hunl (fun j hj hjT hju => ?_) i hin' hi
        · intro h0
          have := congrArg List.length h0
          simp only [List.length_append, List.length_nil] at this
          omega
        · exact List.mem_append.2 ((hun j hj hjT).1 hju)


def preB (ops : Array Oper) : List Nat → Array Bool → Bool
  | [], _ => true
  | i :: l, listed => (Region.ready .any ops listed).contains i && Region.free .any ops listed i && preB ops l (listed.setIfInBounds i true)
def listedOf : List Nat → Array Bool → Array Bool
  | [], listed => listed
  | i :: l, listed => listedOf l (listed.setIfInBounds i true)
def invB (ops : Array Oper) (listed : Array Bool) : Bool :=
  (List.range ops.size).all fun j => !listed.getD j false || (match ops[j]? with | some o => o.after.all (fun e => !Region.binds .any e || listed.getD e.on false) | none => true)
def mixB (ops : Array Oper) (Pre D A T : List Nat) : Bool :=
  Region.noSelect ops && preB ops Pre (Array.replicate ops.size false) && pairsB ops (D ++ A) && (D ++ A).all (mselfB ops T) && (match T with | [] => true | t :: _ => sinkL ops t (D ++ A)) && chainL ops T && seqL ops T (mcanon ops T) &&
  invB ops (listedOf Pre (Array.replicate ops.size false)) && decide ((listedOf Pre (Array.replicate ops.size false)).size = ops.size) && T.all (fun t => !(listedOf Pre (Array.replicate ops.size false)).getD t true || decide (ops.size ≤ t)) &&
  (List.range ops.size).all (fun i => T.contains i || ((listedOf Pre (Array.replicate ops.size false)).getD i true == !((D ++ A).contains i))) && decide (Pre.length + (D.length + A.length) + T.length = ops.size)

def wpPre (P : Program) (ops : Array Oper) (Fin : Act → Prop) : List Nat → Act → Prop
  | [], a => Fin a
  | i :: l, a => ∃ o v, ops[i]? = some o ∧ Yields P ops o v a ∧ wpPre P ops Fin l (a.put o.dst v)
theorem wpPre_nil {Fin : Act → Prop} {a : Act} (h : Fin a) : wpPre P ops Fin [] a := h
theorem wpPre_step {Fin : Act → Prop} {i : Nat} {l : List Nat} {a : Act} {o : Oper} (ho : ops[i]? = some o)
    (h : ∀ K : Act → Prop, (∀ a, wpPre P ops Fin l a → K a) → if Region.wanted o (yielded ops a.tmps) then ∃ v, (∀ w, (execOp a.eval o).run P w = .ok (.value v) w) ∧ K (a.put o.dst v) else K (a.put o.dst undef)) : wpPre P ops Fin (i :: l) a := by
  have h' := h _ (fun _ h => h)
  by_cases hw : Region.wanted o (yielded ops a.tmps) = true
  · rw [if_pos hw] at h'
    obtain ⟨v, h1, h2⟩ := h'
    exact ⟨o, v, ho, .inl ⟨hw, h1⟩, h2⟩
  · rw [if_neg hw] at h'
    exact ⟨o, undef, ho, .inr ⟨by simpa using hw, rfl⟩, h'⟩

theorem wpAny_pre {Q : Exit → Act → World → Prop} (hs : Region.noSelect ops = true) (hQ : ∀ c a d v w, Q (.panic c) (Act.put a d v) w → Q (.panic c) a w) {w : World} {fuel : Nat} : ∀ (Pre : List Nat) (listed : Array Bool) (a : Act), preB ops Pre listed = true →
    wpPre P ops (fun a' => wpAny P .any ops Q fuel (listedOf Pre listed) a' w) Pre a → wpAny P .any ops Q (Pre.length + fuel) listed a w
  | [], _, _, _, h => by rw [List.length_nil, Nat.zero_add]; exact h
  | i :: l, listed, a, hB, ⟨o, v, ho, hy, hr⟩ => by
    simp only [preB, Bool.and_eq_true] at hB
    rw [List.length_cons, show l.length + 1 + fuel = (l.length + fuel) + 1 by omega]
    exact wpAny_take ho hs hB.1.2 hB.1.1 (fun c a w h => hQ c a _ _ w h) hy (wpAny_pre hs hQ l _ _ hB.2 hr)

theorem wpPre_mono {Fin Fin' : Act → Prop} (h : ∀ a, Fin a → Fin' a) : ∀ (l : List Nat) (a : Act), wpPre P ops Fin l a → wpPre P ops Fin' l a
  | [], _, h' => h _ h'
  | _ :: l, _, ⟨o, v, ho, hy, hr⟩ => ⟨o, v, ho, hy, wpPre_mono h l _ hr⟩

/-- **A region that draws its order, walked once: the general form.** -/
theorem wp_region_mix {id : Nat} {l : List Oper} {Q : Exit → Act → World → Prop} {a : Act} (Pre D A T : List Nat) (hm : P.follows .mixedOrders = true) (hB : mixB l.toArray Pre D A T = true)
    (hQ : ∀ c a d v w, Q (.panic c) (Act.put a d v) w → Q (.panic c) a w)
    (h : wpPre P l.toArray (fun a0 => wpLoose P l.toArray W (fun a' => wpFresh P l.toArray W (fun a'' S' => ∀ w', Ext W w' → S' w' → wpSeq P l.toArray Q T a'' w') A a' [] (fun _ => True)) D a0) Pre a) :
    (Code.region id l.toArray true).wp P Q a W := by
  simp only [mixB, Bool.and_eq_true, decide_eq_true_eq] at hB
  obtain ⟨⟨⟨⟨⟨⟨⟨⟨⟨⟨⟨hsel, hpre⟩, hp⟩, hs⟩, hk⟩, hch⟩, hsq⟩, hinv⟩, hsz⟩, htl⟩, hcov⟩, hlen⟩ := hB
  have hself := List.all_eq_true.1 hs
  refine wp_region_any hm ?_
  suffices key : wpAny P .any l.toArray Q (Pre.length + ((D.length + A.length) + T.length)) (Array.replicate l.toArray.size false) a { W with drawn := W.drawn + 1 } by
    rw [show Pre.length + ((D.length + A.length) + T.length) = l.toArray.size by omega] at key
    exact key
  refine wpAny_pre (fuel := (D.length + A.length) + T.length) hsel hQ Pre _ a hpre (wpPre_mono ?_ _ _ h)
  intro a0 h0
  refine mcore (P := P) (ops := l.toArray) (W := W) (Q := Q) (D := D) (A := A) (T := T) (Region.noSelect_spec hsel) (pairsB_spec _ hp) hself (fun t r e => by subst e; exact hk) hch hsq
    (D.length + A.length) _ a0 W.drew D A [] (fun _ => True) rfl ⟨hsz, fun j oj hj hl e he hb => ?_, fun t ht hts => ?_⟩ (fun i hi hiT => ?_)
    (List.Sublist.refl _) (List.Sublist.refl _) (ext_drew (ext_refl _)) trivial (fun _ _ _ _ => trivial) (fun _ _ p hp => by cases hp) h0
  · have h1 := List.all_eq_true.1 hinv j (List.mem_range.2 (Array.getElem?_eq_some_iff.1 hj).1)
    simp only [hl, hj, Bool.not_true, Bool.false_or] at h1
    have h2 := (Array.all_eq_true'.1 h1) e he
    simpa [hb] using h2
  · have h1 := List.all_eq_true.1 htl t ht
    simp only [Bool.or_eq_true, Bool.not_eq_true', decide_eq_true_eq] at h1
    rcases h1 with h1 | h1
    · exact h1
    · omega
  · have h1 := List.all_eq_true.1 hcov i (List.mem_range.2 hi)
    simp only [Bool.or_eq_true, beq_iff_eq] at h1
    rcases h1 with h1 | h1
    · exact absurd (by simpa using h1) hiT
    · rw [h1]
      constructor
      · intro hh
        have h2 : (D ++ A).contains i = true := by simpa only [Bool.not_eq_false'] using hh
        simp only [List.contains_eq_mem, decide_eq_true_eq, List.mem_append] at h2
        exact h2
      · intro hh
        have h2 : (D ++ A).contains i = true := by
          simp only [List.contains_eq_mem, decide_eq_true_eq, List.mem_append]
          exact hh
        rw [h2]; rfl
end
end Go.Proofs.Ytojgbphmkloicaa
