/- Texts joined: Gu Gv Gy. -/
import Derived.Test.YtiabmdboacpmcaaY02
import Derived.Test.YtiabmdboacpmcaaY04
/- A region that draws its order and in which one operation turns old memory (an append that may find room): walked once. -/
namespace Go.Proofs.Ytiabmdboacpmcaa
open Go Go.RowKit Go.Sort

/-- the worlds in which only blocks of fp have turned -/
structure UW (fp : Nat → Prop) (W : World) where
  val : World
  ok : Upd fp W val
instance uwThere (fp : Nat → Prop) (W : World) : Nonempty (UW fp W) := ⟨⟨W, upd_refl⟩⟩
theorem upd_ext {fp : Nat → Prop} {a b c : World} (h : Upd fp a b) (k : Ext b c) : Upd fp a c := upd_trans h (upd_of_ext (fp := fun _ => False) k) (fun _ _ h => h.elim)

section
variable {P : Program} {ops : Array Oper} {W : World} {fp : Nat → Prop}

def uAt (P : Program) (fp : Nat → Prop) (W : World) (o : Oper) (a : Act) (v : Value) : Prop :=
  ∀ p : UW fp W, o.quietAt P a (fun w' => Ext p.val w') p.val v

def uYD (P : Program) (fp : Nat → Prop) (ops : Array Oper) (W : World) (o : Oper) (v : Value) (a : Act) : Prop :=
  (Region.wanted o (yielded ops a.tmps) = true ∧ uAt P fp W o a v) ∨ (Region.wanted o (yielded ops a.tmps) = false ∧ v = undef)

theorem uYD.of_same {o : Oper} {v : Value} {a a' : Act} (hy : uYD P fp ops W o v a) (he : execOp a'.eval o = execOp a.eval o)
    (hw : Region.wanted o (yielded ops a'.tmps) = Region.wanted o (yielded ops a.tmps)) : uYD P fp ops W o v a' := by
  unfold uYD uAt Oper.quietAt at *
  rw [he, hw]
  exact hy

theorem uYD.op {i : Nat} {o : Oper} {v : Value} {a : Act} {w : World} {K : Act → World → Prop} {Q : Exit → Act → World → Prop} (hi : ops[i]? = some o) (hy : uYD P fp ops W o v a)
    (hb : Upd fp W w) (h : ∀ w', Ext w w' → K (a.put o.dst v) w') : wpOp P ops Q i K a w := by
  unfold wpOp
  simp only [hi]
  rcases hy with ⟨hw, hl⟩ | ⟨hw, rfl⟩
  · simp only [hw, if_true]
    refine .inl ?_
    have h3 := hl ⟨w, hb⟩
    unfold Oper.quietAt at h3
    unfold Oper.wp
    simp only at h3
    generalize (execOp a.eval o).run P w = r at *
    cases r with
    | ok n w' =>
      cases n <;> simp only [Oper.quietUpon] at h3 <;> simp only [Oper.upon]
      case value u =>
        obtain ⟨e1, e2⟩ := h3
        rw [e1, e2]
        exact h _ (ext_refl _)
      case skip =>
        obtain ⟨e1, e2⟩ := h3
        rw [e1, ← e2]
        exact h _ (ext_refl _)
      case enter f args =>
        obtain ⟨e1, hc⟩ := h3
        rw [e1]
        exact hc.mono fun e w'' ⟨he, hw''⟩ => by subst he; exact h _ hw''
    | halt x w' => simp only [Oper.quietUpon] at h3
  · simp only [hw, Bool.false_eq_true, if_false]
    exact h _ (ext_refl _)

def wpU (P : Program) (fp : Nat → Prop) (ops : Array Oper) (W : World) (Fin : Act → Prop) : List Nat → Act → Prop
  | [], a => Fin a
  | i :: l, a => ∃ o v, ops[i]? = some o ∧ uYD P fp ops W o v a ∧ wpU P fp ops W Fin l (a.put o.dst v)

theorem wpU_nil {Fin : Act → Prop} {a : Act} (h : Fin a) : wpU P fp ops W Fin [] a := h

theorem wpU_step {Fin : Act → Prop} {i : Nat} {l : List Nat} {a : Act} {o : Oper} (ho : ops[i]? = some o)
    (h : ∀ K : Act → Prop, (∀ a, wpU P fp ops W Fin l a → K a) → if Region.wanted o (yielded ops a.tmps) then
      ∃ v, (∀ p : UW fp W, o.quietAt P a (fun w' => Ext p.val w') p.val v) ∧ K (a.put o.dst v)
      else K (a.put o.dst undef)) : wpU P fp ops W Fin (i :: l) a := by
  have h' := h _ (fun _ h => h)
  by_cases hw : Region.wanted o (yielded ops a.tmps) = true
  · rw [if_pos hw] at h'
    obtain ⟨v, h1, h2⟩ := h'
    exact ⟨o, v, ho, .inl ⟨hw, h1⟩, h2⟩
  · rw [if_neg hw] at h'
    exact ⟨o, undef, ho, .inr ⟨by simpa using hw, rfl⟩, h'⟩

theorem wpU_mono {Fin Fin' : Act → Prop} (h : ∀ a, Fin a → Fin' a) : ∀ (l : List Nat) (a : Act), wpU P fp ops W Fin l a → wpU P fp ops W Fin' l a
  | [], _, h' => h _ h'
  | _ :: l, _, ⟨o, v, ho, hy, hr⟩ => ⟨o, v, ho, hy, wpU_mono h l _ hr⟩

theorem u_pick (hsel : ∀ (j : Nat) (o : Oper) cs b, ops[j]? = some o → o.op ≠ .select cs b) {Fin : Act → Prop} {i : Nat} {l2 : List Nat} : ∀ (l1 : List Nat) (a : Act), (∀ k ∈ l1, apB ops k i = true) →
    wpU P fp ops W Fin (l1 ++ i :: l2) a → ∃ o v, ops[i]? = some o ∧ uYD P fp ops W o v a ∧ wpU P fp ops W Fin (l1 ++ l2) (a.put o.dst v)
  | [], _, _, h => h
  | k :: l1, a, hap, ⟨ok, vk, hk, hyk, hr⟩ => by
    obtain ⟨o, v, hi, hy, hr'⟩ := u_pick hsel l1 _ (fun x hx => hap x (List.mem_cons_of_mem _ hx)) hr
    obtain ⟨h1, h2, h3⟩ := Oper.apart_spec (apB_spec hk hi (hap k (List.mem_cons_self ..)))
    refine ⟨o, v, hi, hy.of_same (execOp_put o (fun cs b => hsel i o cs b hi) a _ _ h1).symm (wanted_put o a _ _ h1).symm, ok, vk, hk,
      hyk.of_same (execOp_put ok (fun cs b => hsel k ok cs b hk) a _ _ h3) (wanted_put ok a _ _ h3), ?_⟩
    rw [← Act.put_comm a vk v h2]
    exact hr'

theorem u_put (hsel : ∀ (j : Nat) (o : Oper) cs b, ops[j]? = some o → o.op ≠ .select cs b) {Fin : Act → Prop} {i : Nat} {o : Oper} (hi : ops[i]? = some o) (u : Value) : ∀ (l : List Nat) (a : Act), (∀ k ∈ l, apB ops k i = true) →
    wpU P fp ops W Fin l a → wpU P fp ops W (fun a' => ∃ a0, a' = a0.put o.dst u ∧ execOp a0.eval o = execOp a.eval o ∧ Fin a0) l (a.put o.dst u)
  | [], a, _, h => ⟨a, rfl, rfl, h⟩
  | k :: l, a, hap, ⟨ok, vk, hk, hyk, hr⟩ => by
    obtain ⟨h1, h2, h3⟩ := Oper.apart_spec (apB_spec hk hi (hap k (List.mem_cons_self ..)))
    refine ⟨ok, vk, hk, hyk.of_same (execOp_put ok (fun cs b => hsel k ok cs b hk) a _ _ h3) (wanted_put ok a _ _ h3), ?_⟩
    rw [← Act.put_comm a vk u h2]
    refine wpU_mono ?_ _ _ (u_put hsel hi u l _ (fun x hx => hap x (List.mem_cons_of_mem _ hx)) hr)
    rintro a' ⟨a0, h4, h5, h6⟩
    exact ⟨a0, h4, h5.trans (execOp_put o (fun cs b => hsel i o cs b hi) a _ _ h1), h6⟩

theorem u_out (hsel : ∀ (j : Nat) (o : Oper) cs b, ops[j]? = some o → o.op ≠ .select cs b) {Fin : Act → Prop} {i : Nat} {o : Oper} (hi : ops[i]? = some o) : ∀ (l : List Nat) (a : Act), (∀ k ∈ l, apB ops k i = true) →
    wpU P fp ops W Fin l a → ∃ a', Fin a' ∧ execOp a'.eval o = execOp a.eval o
  | [], a, _, h => ⟨a, h, rfl⟩
  | k :: l, a, hap, ⟨ok, vk, hk, _, hr⟩ => by
    obtain ⟨h1, _, _⟩ := Oper.apart_spec (apB_spec hk hi (hap k (List.mem_cons_self ..)))
    obtain ⟨a', h, he⟩ := u_out hsel hi l _ (fun x hx => hap x (List.mem_cons_of_mem _ hx)) hr
    exact ⟨a', h, he.trans (execOp_put o (fun cs b => hsel i o cs b hi) a _ _ h1)⟩

theorem ucore1 {Q : Exit → Act → World → Prop} {DA T : List Nat} (hsel : ∀ (j : Nat) (o : Oper) cs b, ops[j]? = some o → o.op ≠ .select cs b)
    (hD : List.Pairwise (Pr ops) DA) (hS : ∀ i ∈ DA, mselfB ops T i = true) (hsink : ∀ t l, T = t :: l → sinkL ops t DA = true) (hchain : chainL ops T = true) (hseq : seqL ops T (mcanon ops T) = true) :
    ∀ (m : Nat) (listed : Array Bool) (a : Act) (w : World) (Dr : List Nat) (S : World → Prop), Dr.length = m → MInv ops T listed →
      (∀ i, i < ops.size → i ∉ T → (listed.getD i true = false ↔ i ∈ Dr)) → Dr.Sublist DA → Upd fp W w → S w → (∀ w w', Ext w w' → S w → S w') →
      wpU P fp ops W (fun a' => ∀ w', Upd fp W w' → S w' → wpSeq P ops Q T a' w') Dr a →
      wpAny P .any ops Q (m + T.length) listed a w := by
  intro m
  induction m with
  | zero =>
    intro listed a w Dr S hm inv hun hDr hb hs hmono h
    obtain rfl : Dr = [] := List.eq_nil_of_length_eq_zero (by omega)
    have h' : wpSeq P ops Q T a w := h w hb hs
    have hc : listed = mcanon ops T := by
      apply Array.ext_getElem?
      intro i
      by_cases hi : i < ops.size
      · have hl : i < listed.size := by rw [inv.size]; exact hi
        by_cases hin : i ∈ T
        · have h1 := inv.tail i hin hi
          simp [mcanon, hi, hin, hl] at h1 ⊢
          exact h1
        · have h1 := hun i hi hin
          simp only [List.not_mem_nil, iff_false, Bool.not_eq_false] at h1
          simp [mcanon, hi, hin, hl] at h1 ⊢
          exact h1
      · rw [Array.getElem?_eq_none (by rw [inv.size]; omega), Array.getElem?_eq_none (by simp [mcanon]; omega)]
    rw [Nat.zero_add]
    exact wpAny_of_seqL T listed a w (by rw [hc]; exact hseq) h'
  | succ m ih =>
    intro listed a w Dr S hm inv hun hsub hb hs hmono h
    rw [show m + 1 + T.length = (m + T.length) + 1 by omega]
    have hpw : List.Pairwise (Pr ops) Dr := hD.sublist hsub
    have hmem : ∀ i ∈ Dr, mselfB ops T i = true := fun i hi => hS i (hsub.subset hi)
    have hlt : ∀ i ∈ Dr, i < ops.size ∧ i ∉ T := fun i hi => by
      have := hmem i hi
      simp only [mselfB, Bool.and_eq_true, decide_eq_true_eq] at this
      exact this.1.2
    have hunl : ∀ i ∈ Dr, listed.getD i true = false := fun i hi => (hun i (hlt i hi).1 (hlt i hi).2).2 hi
    -- what is ready does not wait for what has not come up
    have hready : ∀ i ∈ Region.ready .any ops listed, ∀ k, listed.getD k true = false → Region.waitsFor .any ops i k = false := fun i hi k hk => by
      cases hw : Region.waitsFor .any ops i k with
      | false => rfl
      | true =>
        obtain ⟨oj, hoj, e, he, hbd, hon⟩ := Region.waitsFor_spec hw
        obtain ⟨_, o, ho, hall⟩ := mem_ready.1 hi
        obtain rfl : o = oj := Option.some.inj (ho.symm.trans hoj)
        have := hall e he hbd
        rw [hon, getD_both hk] at this
        cases this
    constructor
    · -- the first of what is left is ready
      intro hnil
      exfalso
      obtain ⟨x, xs, hx⟩ : ∃ x xs, Dr = x :: xs := by
        cases hl : Dr with
        | nil => rw [hl] at hm; simp at hm
        | cons x xs => exact ⟨x, xs, rfl⟩
      have hxm : x ∈ Dr := by rw [hx]; exact List.mem_cons_self ..
      have hsx := hmem x hxm
      simp only [mselfB, Bool.and_eq_true, decide_eq_true_eq, Bool.not_eq_true'] at hsx
      obtain ⟨⟨hs1, hs2⟩, hs3⟩ := hsx
      cases ho : ops[x]? with
      | none => rw [ho] at hs3; cases hs3
      | some o =>
        rw [ho] at hs3
        have : x ∈ Region.ready .any ops listed := mem_ready.2 ⟨hunl x hxm, o, ho, fun e he hbd => by
          have h1 := (Array.all_eq_true'.1 hs3) e he
          simp only [hbd, Bool.not_true, Bool.false_or, decide_eq_true_eq] at h1
          cases hl : listed.getD e.on false with
          | true => rfl
          | false =>
            have hl' : listed.getD e.on true = false := getD_in (by rw [inv.size]; exact h1.1) hl
            have hin := (hun e.on h1.1 h1.2).1 hl'
            have hwt := waits_of ho he hbd rfl
            rw [hx] at hin
            rcases List.mem_cons.1 hin with hh | hh
            · rw [hh, hs1] at hwt; cases hwt
            · rw [hx] at hpw
              have := (List.pairwise_cons.1 hpw).1 _ hh
              rw [this.2.1] at hwt; cases hwt⟩
        rw [hnil] at this
        cases this
    · intro i hi
      have hiu := (mem_ready.1 hi).1
      obtain ⟨_, o, ho, _⟩ := mem_ready.1 hi
      have hisz : i < ops.size := (Array.getElem?_eq_some_iff.1 ho).1
      by_cases hin : i ∉ T
      · have hset : ∀ (X : List Nat), (∀ j, j < ops.size → j ∉ T → j ≠ i → (j ∈ Dr ↔ j ∈ X)) → i ∉ X → ∀ j, j < ops.size → j ∉ T → ((listed.setIfInBounds i true).getD j true = false ↔ j ∈ X) := fun X hXY hX j hj hjT => by
          by_cases hji : i = j
          · subst hji
            have h1 : (listed.setIfInBounds i true).getD i true = true := by
              have : i < listed.size := by rw [inv.size]; exact hisz
              simp [this]
            rw [h1]
            simp [hX]
          · rw [getD_set_ne true hji, hun j hj hjT, hXY j hj hjT (fun h => hji h.symm)]
        have hmD := (hun i hisz hin).1 hiu
        obtain ⟨l1, l2, rfl⟩ := List.append_of_mem hmD
        have hap : ∀ k ∈ l1, apB ops k i = true := fun k hk => by
          have h1 := (List.pairwise_append.1 hpw).2.2 k hk i (List.mem_cons_self ..)
          rcases h1.1 with h2 | h2
          · rw [hready i hi k (hunl k (List.mem_append_left _ hk))] at h2; cases h2
          · exact h2
        obtain ⟨o', v, ho', hy, hr⟩ := u_pick hsel l1 a hap h
        obtain rfl : o' = o := Option.some.inj (ho'.symm.trans ho)
        have hsl : (l1 ++ l2).Sublist (l1 ++ i :: l2) := (List.Sublist.refl l1).append (List.sublist_cons_self ..)
        have hni : i ∉ l1 ++ l2 := by
          have h1 := List.pairwise_append.1 hpw
          intro hm'
          rcases List.mem_append.1 hm' with hm' | hm'
          · exact (h1.2.2 i hm' i (List.mem_cons_self ..)).2.2 rfl
          · exact ((List.pairwise_cons.1 h1.2.1).1 i hm').2.2 rfl
        exact hy.op ho hb (fun w' hw' => ih _ _ w' (l1 ++ l2) S (by simp at hm ⊢; omega) (inv.set hi hin) (hset _ (fun j _ _ hji => by simp [hji]) hni) (hsl.trans hsub) (upd_ext hb hw') (hmono _ _ hw' hs) hmono hr)
      · -- the tail waits
        exfalso
        have hin' : i ∈ T := by simpa using hin
        refine mtail_waits hsink hchain inv (L := Dr) hsub ?_ hunl (fun j hj hjT hju => (hun j hj hjT).1 hju) i hin' hi
        intro h0
        rw [h0] at hm
        simp at hm

/-- the operation that turns old memory, and what is behind it -/
def MFin (P : Program) (fp : Nat → Prop) (ops : Array Oper) (W : World) (Q : Exit → Act → World → Prop) (T : List Nat) (iM : Nat) (R : Rel) (a : Act) (S : World → Prop) : Prop :=
  (∃ o, ops[iM]? = some o ∧ o.guard = none ∧ (∀ v w w', Ext w w' → R v w → R v w')) ∧
  (∀ w, Ext W w → S w → ∀ o, ops[iM]? = some o → runsAt P o a (fun v w' => Upd fp w w' ∧ R v w') w) ∧
  (∀ o, ops[iM]? = some o → ∀ v w', Upd fp W w' → R v w' → wpSeq P ops Q T (a.put o.dst v) w')

theorem ucore2 {Q : Exit → Act → World → Prop} {D T : List Nat} {G : List (Nat × Rel)} {iM : Nat} {R : Rel} (hsel : ∀ (j : Nat) (o : Oper) cs b, ops[j]? = some o → o.op ≠ .select cs b)
    (hD : List.Pairwise (Pr ops) (D ++ (G.map Prod.fst ++ [iM]))) (hS : ∀ i ∈ D ++ (G.map Prod.fst ++ [iM]), mselfB ops T i = true) (hsink : ∀ t l, T = t :: l → sinkL ops t (D ++ (G.map Prod.fst ++ [iM])) = true) (hM : ∀ g ∈ G, Region.waitsFor .any ops iM g.1 = true) (hchain : chainL ops T = true) (hseq : seqL ops T (mcanon ops T) = true) :
    ∀ (m : Nat) (listed : Array Bool) (a : Act) (w : World) (Dr : List Nat) (Gr : List (Nat × Rel)) (S : List (Nat × (World → Prop))), Dr.length + Gr.length + 1 = m → MInv ops T listed →
      (∀ i, i < ops.size → i ∉ T → (listed.getD i true = false ↔ i ∈ Dr ∨ i ∈ Gr.map Prod.fst ++ [iM])) → Dr.Sublist D → Gr.Sublist G → Ext W w → (∀ x ∈ S, x.2 w) →
      (∀ x ∈ S, ∀ w w', Ext w w' → x.2 w → x.2 w') →
      wpU P fp ops W (fun a' => wpGen P ops W (fun a'' S' => MFin P fp ops W Q T iM R a'' S') Gr a' S) Dr a →
      wpAny P .any ops Q (m + T.length) listed a w := by
  have hF : ∀ (a : Act) (S S' : World → Prop), (∀ w, S' w → S w) → MFin P fp ops W Q T iM R a S → MFin P fp ops W Q T iM R a S' :=
    fun a S S' h h1 => ⟨h1.1, fun w hw hs => h1.2.1 w hw (h _ hs), h1.2.2⟩
  intro m
  induction m with
  | zero =>
    intro listed a w Dr Gr S hm
    omega
  | succ m ih =>
    intro listed a w Dr Gr S hm inv hun hDr hGr hb hs hmono h
    rw [show m + 1 + T.length = (m + T.length) + 1 by omega]
    obtain ⟨Ar, hAr⟩ : ∃ Ar, Gr.map Prod.fst ++ [iM] = Ar := ⟨_, rfl⟩
    obtain ⟨A, hA⟩ : ∃ A, G.map Prod.fst ++ [iM] = A := ⟨_, rfl⟩
    have hlenA : Ar.length = Gr.length + 1 := by rw [← hAr, List.length_append, List.length_map]; rfl
    rw [hA] at hD hS hsink
    rw [hAr] at hun
    have hArs : Ar.Sublist A := by rw [← hAr, ← hA]; exact (hGr.map _).append (List.Sublist.refl _)
    have hsub : (Dr ++ Ar).Sublist (D ++ A) := hDr.append hArs
    have hpw : List.Pairwise (Pr ops) (Dr ++ Ar) := hD.sublist hsub
    have hmem : ∀ i ∈ Dr ++ Ar, mselfB ops T i = true := fun i hi => hS i (hsub.subset hi)
    have hlt : ∀ i ∈ Dr ++ Ar, i < ops.size ∧ i ∉ T := fun i hi => by
      have := hmem i hi
      simp only [mselfB, Bool.and_eq_true, decide_eq_true_eq] at this
      exact this.1.2
    have hunl : ∀ i ∈ Dr ++ Ar, listed.getD i true = false := fun i hi => (hun i (hlt i hi).1 (hlt i hi).2).2 (List.mem_append.1 hi)
    -- what is ready does not wait for what has not come up
    have hready : ∀ i ∈ Region.ready .any ops listed, ∀ k, listed.getD k true = false → Region.waitsFor .any ops i k = false := fun i hi k hk => by
      cases hw : Region.waitsFor .any ops i k with
      | false => rfl
      | true =>
        obtain ⟨oj, hoj, e, he, hbd, hon⟩ := Region.waitsFor_spec hw
        obtain ⟨_, o, ho, hall⟩ := mem_ready.1 hi
        obtain rfl : o = oj := Option.some.inj (ho.symm.trans hoj)
        have := hall e he hbd
        rw [hon, getD_both hk] at this
        cases this
    constructor
    · -- the first of what is left is ready
      intro hnil
      exfalso
      obtain ⟨x, xs, hx⟩ : ∃ x xs, Dr ++ Ar = x :: xs := by
        cases hl : Dr ++ Ar with
        | nil => have := congrArg List.length hl; simp only [List.length_append, List.length_nil] at this; omega
        | cons x xs => exact ⟨x, xs, rfl⟩
      have hxm : x ∈ Dr ++ Ar := by rw [hx]; exact List.mem_cons_self ..
      have hsx := hmem x hxm
      have hself := hsx
      simp only [mselfB, Bool.and_eq_true, decide_eq_true_eq, Bool.not_eq_true'] at hsx
      obtain ⟨⟨hs1, hs2⟩, hs3⟩ := hsx
      cases ho : ops[x]? with
      | none => rw [ho] at hs3; cases hs3
      | some o =>
        rw [ho] at hs3
        have : x ∈ Region.ready .any ops listed := mem_ready.2 ⟨hunl x hxm, o, ho, fun e he hbd => by
          have h1 := (Array.all_eq_true'.1 hs3) e he
          simp only [hbd, Bool.not_true, Bool.false_or, decide_eq_true_eq] at h1
          cases hl : listed.getD e.on false with
          | true => rfl
          | false =>
            have hl' : listed.getD e.on true = false := getD_in (by rw [inv.size]; exact h1.1) hl
            have hin := (hun e.on h1.1 h1.2).1 hl'
            have hin' : e.on ∈ x :: xs := by rw [← hx]; exact List.mem_append.2 hin
            have hwt := waits_of ho he hbd rfl
            rcases List.mem_cons.1 hin' with hh | hh
            · rw [hh, hs1] at hwt; cases hwt
            · rw [hx] at hpw
              have := (List.pairwise_cons.1 hpw).1 _ hh
              rw [this.2.1] at hwt; cases hwt⟩
        rw [hnil] at this
        cases this
    · intro i hi
      have hiu := (mem_ready.1 hi).1
      obtain ⟨_, o, ho, _⟩ := mem_ready.1 hi
      have hisz : i < ops.size := (Array.getElem?_eq_some_iff.1 ho).1
      by_cases hin : i ∉ T
      · have hset : ∀ (X Y : List Nat), (∀ j, j < ops.size → j ∉ T → j ≠ i → ((j ∈ Dr ∨ j ∈ Ar) ↔ (j ∈ X ∨ j ∈ Y))) → i ∉ X → i ∉ Y → ∀ j, j < ops.size → j ∉ T → ((listed.setIfInBounds i true).getD j true = false ↔ j ∈ X ∨ j ∈ Y) := fun X Y hXY hX hY j hj hjT => by
          by_cases hji : i = j
          · subst hji
            have h1 : (listed.setIfInBounds i true).getD i true = true := by
              have : i < listed.size := by rw [inv.size]; exact hisz
              simp [this]
            rw [h1]
            simp [hX, hY]
          · rw [getD_set_ne true hji, hun j hj hjT, hXY j hj hjT (fun h => hji h.symm)]
        rcases (hun i hisz hin).1 hiu with hmD | hmA
        · obtain ⟨l1, l2, rfl⟩ := List.append_of_mem hmD
          have hpwD : List.Pairwise (Pr ops) (l1 ++ i :: l2) := hpw.sublist (List.sublist_append_left ..)
          have hap : ∀ k ∈ l1, apB ops k i = true := fun k hk => by
            have h1 := (List.pairwise_append.1 hpwD).2.2 k hk i (List.mem_cons_self ..)
            rcases h1.1 with h2 | h2
            · rw [hready i hi k (hunl k (List.mem_append_left _ (List.mem_append_left _ hk)))] at h2; cases h2
            · exact h2
          obtain ⟨o', v, ho', hy, hr⟩ := u_pick hsel l1 a hap h
          obtain rfl : o' = o := Option.some.inj (ho'.symm.trans ho)
          have hsl : (l1 ++ l2).Sublist (l1 ++ i :: l2) := (List.Sublist.refl l1).append (List.sublist_cons_self ..)
          have hni : i ∉ l1 ++ l2 ∧ i ∉ Ar := by
            have h1 := List.pairwise_append.1 hpwD
            refine ⟨fun hm' => ?_, fun hm' => ?_⟩
            · rcases List.mem_append.1 hm' with hm' | hm'
              · exact (h1.2.2 i hm' i (List.mem_cons_self ..)).2.2 rfl
              · exact ((List.pairwise_cons.1 h1.2.1).1 i hm').2.2 rfl
            · exact ((List.pairwise_append.1 hpw).2.2 i (by simp) i hm').2.2 rfl
          refine hy.op ho (upd_of_ext hb) (fun w' hw' => ih _ _ w' (l1 ++ l2) Gr S (by simp at hm ⊢; omega) (inv.set hi hin) (by rw [hAr]; exact hset _ _ (fun j _ _ hji => by simp [hji]) hni.1 hni.2) (hsl.trans hDr) hGr
            (ext_trans hb hw') (fun x hx => hmono x hx _ _ hw' (hs x hx)) hmono hr)
        · rw [← hAr] at hmA
          refine Or.elim (List.mem_append.1 hmA).symm (fun hmA => ?_) (fun hmA => ?_)
          · obtain rfl : i = iM := by simpa using hmA
            have hGr0 : Gr = [] := by
              cases Gr with
              | nil => rfl
              | cons g r =>
                have h1 := hM g (hGr.subset (List.mem_cons_self ..))
                rw [hready i hi g.1 (hunl g.1 (by rw [← hAr]; simp))] at h1
                cases h1
            subst hGr0
            have hpw2 := List.pairwise_append.1 hpw
            have hapD : ∀ k ∈ Dr, apB ops k i = true := fun k hk => by
              have h1 := hpw2.2.2 k hk i (by rw [← hAr]; simp)
              rcases h1.1 with h2 | h2
              · rw [hready i hi k (hunl k (List.mem_append_left _ hk))] at h2; cases h2
              · exact h2
            obtain ⟨a1, hf1, he1⟩ := u_out hsel ho Dr a hapD h
            obtain ⟨⟨o', ho', hg, hmR⟩, hrun1, _⟩ := hf1
            obtain rfl : o' = o := Option.some.inj (ho'.symm.trans ho)
            have hrun := runsAt_same he1.symm (hrun1 w hb (fun x hx => hs x hx) _ ho)
            have hni : i ∉ Dr := fun hm' => (hpw2.2.2 i hm' i (by rw [← hAr]; simp)).2.2 rfl
            refine runsAt_op ho hg hrun (fun v w' hv => ?_)
            have hm2 : Dr.length = m := by simp at hm; omega
            refine ucore1 (fp := fp) (W := W) (DA := D ++ A) hsel hD hS hsink hchain hseq m _ _ w' Dr (fun w => R v w) hm2 (inv.set hi hin) (fun j hj hjT => ?_) (hDr.trans (List.sublist_append_left ..)) (upd_trans (upd_of_ext (fp := fp) hb) hv.1 (fun b hb' h => h)) hv.2 (fun w1 w2 h12 h1 => hmR _ _ _ h12 h1) ?_
            · have := hset Dr [] (fun j' _ _ hji => by rw [← hAr]; simp [hji]) hni (by simp) j hj hjT
              simpa using this
            · refine wpU_mono ?_ _ _ (u_put hsel ho v Dr a hapD h)
              rintro a' ⟨a0, rfl, he0, hf0⟩
              exact fun w1 hw1 hs1 => hf0.2.2 _ ho v w1 hw1 hs1
          obtain ⟨⟨i', R'⟩, hmG, hii⟩ := List.mem_map.1 hmA
          simp only at hii
          subst hii
          obtain ⟨l1, l2, rfl⟩ := List.append_of_mem hmG
          have hAr' : Ar = l1.map Prod.fst ++ i' :: (l2.map Prod.fst ++ [iM]) := by rw [← hAr]; simp
          have hpw2 := List.pairwise_append.1 hpw
          have hapD : ∀ k ∈ Dr, apB ops k i' = true := fun k hk => by
            have h1 := hpw2.2.2 k hk i' (by rw [hAr']; simp)
            rcases h1.1 with h2 | h2
            · rw [hready i' hi k (hunl k (List.mem_append_left _ hk))] at h2; cases h2
            · exact h2
          have hapG : ∀ k ∈ l1, apB ops k.1 i' = true ∧ Region.waitsFor .any ops i' k.1 = false := fun k hk => by
            have hkm : k.1 ∈ l1.map Prod.fst := List.mem_map.2 ⟨k, hk, rfl⟩
            have hw := hready i' hi k.1 (hunl k.1 (List.mem_append_right _ (by rw [hAr']; exact List.mem_append_left _ hkm)))
            have h3 := hpw2.2.1
            rw [hAr'] at h3
            have h1 := (List.pairwise_append.1 h3).2.2 k.1 hkm i' (List.mem_cons_self ..)
            rcases h1.1 with h2 | h2
            · rw [hw] at h2; cases h2
            · exact ⟨h2, hw⟩
          have hpickG := fun (a' : Act) (hh : wpGen P ops W (fun a'' S' => MFin P fp ops W Q T iM R a'' S') (l1 ++ (i', R') :: l2) a' S) => gen_pick hsel hF l1 a' S hapG hh
          obtain ⟨a1, hf1, he1⟩ := u_out hsel ho Dr a hapD h
          obtain ⟨o', ho', hg, hmR, hrun1, _⟩ := hpickG a1 hf1
          obtain rfl : o' = o := Option.some.inj (ho'.symm.trans ho)
          have hrun := runsAt_same he1.symm (hrun1 w hb (fun x hx _ => hs x hx))
          have hsl : (l1 ++ l2).Sublist (l1 ++ (i', R') :: l2) := (List.Sublist.refl l1).append (List.sublist_cons_self ..)
          have hni : i' ∉ Dr ∧ i' ∉ (l1 ++ l2).map Prod.fst ++ [iM] := by
            have h3 := hpw2.2.1
            rw [hAr'] at h3
            have h1 := List.pairwise_append.1 h3
            refine ⟨fun hm' => (hpw2.2.2 i' hm' i' (by rw [hAr']; simp)).2.2 rfl, fun hm' => ?_⟩
            rw [List.map_append, List.append_assoc] at hm'
            rcases List.mem_append.1 hm' with hm' | hm'
            · exact (h1.2.2 i' hm' i' (List.mem_cons_self ..)).2.2 rfl
            · exact ((List.pairwise_cons.1 h1.2.1).1 i' hm').2.2 rfl
          refine runsAt_op ho hg hrun (fun v w' hv => ?_)
          refine ih _ _ w' Dr (l1 ++ l2) ((i', R' v) :: S) (by simp at hm ⊢; omega) (inv.set hi hin) (hset _ _ (fun j _ _ hji => by rw [hAr']; simp [hji]) hni.1 hni.2) hDr (hsl.trans hGr)
            (ext_trans hb hv.1) (fun x hx => ?_) (fun x hx => ?_) ?_
          · rcases List.mem_cons.1 hx with rfl | hx
            · exact hv.2
            · exact hmono x hx _ _ hv.1 (hs x hx)
          · rcases List.mem_cons.1 hx with rfl | hx
            · exact fun w1 w2 h12 h1 => hmR _ _ _ h12 h1
            · exact hmono x hx
          · refine wpU_mono ?_ _ _ (u_put hsel ho v Dr a hapD h)
            rintro a' ⟨a0, rfl, he0, hf0⟩
            obtain ⟨o2, ho2, _, _, _, hr2⟩ := hpickG a0 hf0
            obtain rfl : o2 = o' := Option.some.inj (ho2.symm.trans ho)
            exact hr2 v
      · -- the tail waits
        exfalso
        have hin' : i ∈ T := by simpa using hin
        refine mtail_waits hsink hchain inv (L := Dr ++ Ar) hsub ?_ hunl (fun j hj hjT hju => ?_) i hin' hi
        · intro h0
          have := congrArg List.length h0
          simp only [List.length_append, List.length_nil] at this
          omega
        · exact List.mem_append.2 ((hun j hj hjT).1 hju)



/-- **A region that draws its order, walked once, where of some operations only a relation is known and one turns old memory.** -/
theorem wp_region_upd {id : Nat} {l : List Oper} {Q : Exit → Act → World → Prop} {a : Act} (Pre D : List Nat) (G : List (Nat × Rel)) (iM : Nat) (R : Rel) (T A : List Nat) (hA : G.map Prod.fst ++ [iM] = A) (hM : (G.all fun g => Region.waitsFor .any l.toArray iM g.1) = true) (hm : P.follows .mixedOrders = true) (hB : mixB l.toArray Pre D A T = true)
    (hQ : ∀ c a d v w, Q (.panic c) (Act.put a d v) w → Q (.panic c) a w)
    (h : wpPre P l.toArray (fun a0 => wpU P fp l.toArray W (fun a' => wpGen P l.toArray W (fun a'' S' => MFin P fp l.toArray W Q T iM R a'' S') G a' []) D a0) Pre a) :
    (Code.region id l.toArray true).wp P Q a W := by
  subst hA
  simp only [mixB, Bool.and_eq_true, decide_eq_true_eq] at hB
  obtain ⟨⟨⟨⟨⟨⟨⟨⟨⟨⟨⟨hsel, hpre⟩, hp⟩, hs⟩, hk⟩, hch⟩, hsq⟩, hinv⟩, hsz⟩, htl⟩, hcov⟩, hlen⟩ := hB
  have hself := List.all_eq_true.1 hs
  refine wp_region_any hm ?_
  suffices key : wpAny P .any l.toArray Q (Pre.length + ((D.length + (G.map Prod.fst ++ [iM]).length) + T.length)) (Array.replicate l.toArray.size false) a { W with drawn := W.drawn + 1 } by
    rw [show Pre.length + ((D.length + (G.map Prod.fst ++ [iM]).length) + T.length) = l.toArray.size by omega] at key
    exact key
  refine wpAny_pre (fuel := (D.length + (G.map Prod.fst ++ [iM]).length) + T.length) hsel hQ Pre _ a hpre (wpPre_mono ?_ _ _ h)
  intro a0 h0
  refine ucore2 (fp := fp) (iM := iM) (R := R) (P := P) (ops := l.toArray) (W := W) (Q := Q) (D := D) (G := G) (T := T) (Region.noSelect_spec hsel) (pairsB_spec _ hp) hself (fun t r e => by subst e; exact hk) (fun g hg => by simpa using List.all_eq_true.1 hM g hg) hch hsq
    (D.length + (G.map Prod.fst ++ [iM]).length) _ a0 W.drew D G [] (by rw [List.length_append, List.length_map]; rfl) ⟨hsz, fun j oj hj hl e he hb => ?_, fun t ht hts => ?_⟩ (fun i hi hiT => ?_)
    (List.Sublist.refl _) (List.Sublist.refl _) (ext_drew (ext_refl _)) (fun _ hx => by cases hx) (fun _ hx => by cases hx) h0
  · have h1 := List.all_eq_true.1 hinv j (List.mem_range.2 (Array.getElem?_eq_some_iff.1 hj).1)
    simp only [hl, hj, Bool.not_true, Bool.false_or] at h1
    have h2 := (Array.all_eq_true'.1 h1) e he
    simpa [hb] using h2
  · have h1 := List.all_eq_true.1 htl t ht
    simp only [Bool.or_eq_true, Bool.not_eq_true', decide_eq_true_eq] at h1
    rcases h1 with h1 | h1
    · exact h1
    · omega
  · have h1 := List.all_eq_true.1 hcov i (List.mem_range.2 hi)
    simp only [Bool.or_eq_true, beq_iff_eq] at h1
    rcases h1 with h1 | h1
    · exact absurd (by simpa using h1) hiT
    · rw [h1]
      constructor
      · intro hh
        have h2 : (D ++ (G.map Prod.fst ++ [iM])).contains i = true := by simpa only [Bool.not_eq_false'] using hh
        simp only [List.contains_eq_mem, decide_eq_true_eq] at h2
        exact List.mem_append.1 h2
      · intro hh
        have h2 : (D ++ (G.map Prod.fst ++ [iM])).contains i = true := by
          simp only [List.contains_eq_mem, decide_eq_true_eq]
          exact List.mem_append.2 hh
        rw [h2]; rfl

end
end Go.Proofs.Ytiabmdboacpmcaa
/- A drawn region in which one operation turns old memory, with a tail that draws its order too. -/
namespace Go.Proofs.Ytiabmdboacpmcaa
open Go Go.RowKit Go.Sort


variable {P : Program} {ops : Array Oper} {W : World} {fp : Nat → Prop}
theorem mtail_waits2 {T DA L : List Nat} {listed : Array Bool} (hsink : ∀ t ∈ T, sinkL ops t DA = true) (inv : MInv ops T listed) (hsub : L.Sublist DA) (hne : L ≠ [])
    (hunl : ∀ i ∈ L, listed.getD i true = false) (_hall : ∀ j, j < ops.size → j ∉ T → listed.getD j true = false → j ∈ L) : ∀ i ∈ T, i ∉ Region.ready .any ops listed := by
  intro i hi hr
  obtain ⟨x, hx⟩ := List.exists_mem_of_ne_nil L hne
  obtain ⟨y, _, hyu, hw⟩ := sink_spec inv DA (hsink i hi) ⟨x, hsub.subset hx, getD_both (hunl x hx)⟩
  exact not_ready_of_waits hw hyu hr

def mixF (ops : Array Oper) (Pre D A T : List Nat) : Bool :=
  Region.noSelect ops && preB ops Pre (Array.replicate ops.size false) && pairsB ops (D ++ A) && (D ++ A).all (mselfB ops T) && T.all (fun t => sinkL ops t (D ++ A)) &&
  invB ops (listedOf Pre (Array.replicate ops.size false)) && decide ((listedOf Pre (Array.replicate ops.size false)).size = ops.size) && T.all (fun t => !(listedOf Pre (Array.replicate ops.size false)).getD t true || decide (ops.size ≤ t)) &&
  (List.range ops.size).all (fun i => T.contains i || ((listedOf Pre (Array.replicate ops.size false)).getD i true == !((D ++ A).contains i))) && decide (Pre.length + (D.length + A.length) + T.length = ops.size)

theorem vcore1 {Q : Exit → Act → World → Prop} {DA T : List Nat} (hsel : ∀ (j : Nat) (o : Oper) cs b, ops[j]? = some o → o.op ≠ .select cs b)
    (hD : List.Pairwise (Pr ops) DA) (hS : ∀ i ∈ DA, mselfB ops T i = true) (hsink : ∀ t ∈ T, sinkL ops t DA = true) :
    ∀ (m : Nat) (listed : Array Bool) (a : Act) (w : World) (Dr : List Nat) (S : World → Prop), Dr.length = m → MInv ops T listed →
      (∀ i, i < ops.size → i ∉ T → (listed.getD i true = false ↔ i ∈ Dr)) → Dr.Sublist DA → Upd fp W w → S w → (∀ w w', Ext w w' → S w → S w') →
      wpU P fp ops W (fun a' => ∀ w', Upd fp W w' → S w' → wpAny P .any ops Q T.length (mcanon ops T) a' w') Dr a →
      wpAny P .any ops Q (m + T.length) listed a w := by
  intro m
  induction m with
  | zero =>
    intro listed a w Dr S hm inv hun hDr hb hs hmono h
    obtain rfl : Dr = [] := List.eq_nil_of_length_eq_zero (by omega)
    have h' : wpAny P .any ops Q T.length (mcanon ops T) a w := h w hb hs
    have hc : listed = mcanon ops T := by
      apply Array.ext_getElem?
      intro i
      by_cases hi : i < ops.size
      · have hl : i < listed.size := by rw [inv.size]; exact hi
        by_cases hin : i ∈ T
        · have h1 := inv.tail i hin hi
          simp [mcanon, hi, hin, hl] at h1 ⊢
          exact h1
        · have h1 := hun i hi hin
          simp only [List.not_mem_nil, iff_false, Bool.not_eq_false] at h1
          simp [mcanon, hi, hin, hl] at h1 ⊢
          exact h1
      · rw [Array.getElem?_eq_none (by rw [inv.size]; omega), Array.getElem?_eq_none (by simp [mcanon]; omega)]
    rw [Nat.zero_add]
    rw [hc]; exact h'
  | succ m ih =>
    intro listed a w Dr S hm inv hun hsub hb hs hmono h
    rw [show m + 1 + T.length = (m + T.length) + 1 by omega]
    have hpw : List.Pairwise (Pr ops) Dr := hD.sublist hsub
    have hmem : ∀ i ∈ Dr, mselfB ops T i = true := fun i hi => hS i (hsub.subset hi)
    have hlt : ∀ i ∈ Dr, i < ops.size ∧ i ∉ T := fun i hi => by
      have := hmem i hi
      simp only [mselfB, Bool.and_eq_true, decide_eq_true_eq] at this
      exact this.1.2
    have hunl : ∀ i ∈ Dr, listed.getD i true = false := fun i hi => (hun i (hlt i hi).1 (hlt i hi).2).2 hi
    -- what is ready does not wait for what has not come up
    have hready : ∀ i ∈ Region.ready .any ops listed, ∀ k, listed.getD k true = false → Region.waitsFor .any ops i k = false := fun i hi k hk => by
      cases hw : Region.waitsFor .any ops i k with
      | false => rfl
      | true =>
        obtain ⟨oj, hoj, e, he, hbd, hon⟩ := Region.waitsFor_spec hw
        obtain ⟨_, o, ho, hall⟩ := mem_ready.1 hi
        obtain rfl : o = oj := Option.some.inj (ho.symm.trans hoj)
        have := hall e he hbd
        rw [hon, getD_both hk] at this
        cases this
    constructor
    · -- the first of what is left is ready
      intro hnil
      exfalso
      obtain ⟨x, xs, hx⟩ : ∃ x xs, Dr = x :: xs := by
        cases hl : Dr with
        | nil => rw [hl] at hm; simp at hm
        | cons x xs => exact ⟨x, xs, rfl⟩
      have hxm : x ∈ Dr := by rw [hx]; exact List.mem_cons_self ..
      have hsx := hmem x hxm
      simp only [mselfB, Bool.and_eq_true, decide_eq_true_eq, Bool.not_eq_true'] at hsx
      obtain ⟨⟨hs1, hs2⟩, hs3⟩ := hsx
      cases ho : ops[x]? with
      | none => rw [ho] at hs3; cases hs3
      | some o =>
        rw [ho] at hs3
        have : x ∈ Region.ready .any ops listed := mem_ready.2 ⟨hunl x hxm, o, ho, fun e he hbd => by
          have h1 := (Array.all_eq_true'.1 hs3) e he
          simp only [hbd, Bool.not_true, Bool.false_or, decide_eq_true_eq] at h1
          cases hl : listed.getD e.on false with
          | true => rfl
          | false =>
            have hl' : listed.getD e.on true = false := getD_in (by rw [inv.size]; exact h1.1) hl
            have hin := (hun e.on h1.1 h1.2).1 hl'
            have hwt := waits_of ho he hbd rfl
            rw [hx] at hin
            rcases List.mem_cons.1 hin with hh | hh
            · rw [hh, hs1] at hwt; cases hwt
            · rw [hx] at hpw
              have := (List.pairwise_cons.1 hpw).1 _ hh
              rw [this.2.1] at hwt; cases hwt⟩
        rw [hnil] at this
        cases this
    · intro i hi
      have hiu := (mem_ready.1 hi).1
      obtain ⟨_, o, ho, _⟩ := mem_ready.1 hi
      have hisz : i < ops.size := (Array.getElem?_eq_some_iff.1 ho).1
      by_cases hin : i ∉ T
      · have hset : ∀ (X : List Nat), (∀ j, j < ops.size → j ∉ T → j ≠ i → (j ∈ Dr ↔ j ∈ X)) → i ∉ X → ∀ j, j < ops.size → j ∉ T → ((listed.setIfInBounds i true).getD j true = false ↔ j ∈ X) := fun X hXY hX j hj hjT => by
          by_cases hji : i = j
          · subst hji
            have h1 : (listed.setIfInBounds i true).getD i true = true := by
              have : i < listed.size := by rw [inv.size]; exact hisz
              simp [this]
            rw [h1]
            simp [hX]
          · rw [getD_set_ne true hji, hun j hj hjT, hXY j hj hjT (fun h => hji h.symm)]
        have hmD := (hun i hisz hin).1 hiu
        obtain ⟨l1, l2, rfl⟩ := List.append_of_mem hmD
        have hap : ∀ k ∈ l1, apB ops k i = true := fun k hk => by
          have h1 := (List.pairwise_append.1 hpw).2.2 k hk i (List.mem_cons_self ..)
          rcases h1.1 with h2 | h2
          · rw [hready i hi k (hunl k (List.mem_append_left _ hk))] at h2; cases h2
          · exact h2
        obtain ⟨o', v, ho', hy, hr⟩ := u_pick hsel l1 a hap h
        obtain rfl : o' = o := Option.some.inj (ho'.symm.trans ho)
        have hsl : (l1 ++ l2).Sublist (l1 ++ i :: l2) := (List.Sublist.refl l1).append (List.sublist_cons_self ..)
        have hni : i ∉ l1 ++ l2 := by
          have h1 := List.pairwise_append.1 hpw
          intro hm'
          rcases List.mem_append.1 hm' with hm' | hm'
          · exact (h1.2.2 i hm' i (List.mem_cons_self ..)).2.2 rfl
          · exact ((List.pairwise_cons.1 h1.2.1).1 i hm').2.2 rfl
        exact hy.op ho hb (fun w' hw' => ih _ _ w' (l1 ++ l2) S (by simp at hm ⊢; omega) (inv.set hi hin) (hset _ (fun j _ _ hji => by simp [hji]) hni) (hsl.trans hsub) (upd_ext hb hw') (hmono _ _ hw' hs) hmono hr)
      · -- the tail waits
        exfalso
        have hin' : i ∈ T := by simpa using hin
        refine mtail_waits2 hsink inv (L := Dr) hsub ?_ hunl (fun j hj hjT hju => (hun j hj hjT).1 hju) i hin' hi
        intro h0
        rw [h0] at hm
        simp at hm

/-- the operation that turns old memory, and what is behind it -/
def MFan (P : Program) (fp : Nat → Prop) (ops : Array Oper) (W : World) (Q : Exit → Act → World → Prop) (T : List Nat) (iM : Nat) (R : Rel) (a : Act) (S : World → Prop) : Prop :=
  (∃ o, ops[iM]? = some o ∧ o.guard = none ∧ (∀ v w w', Ext w w' → R v w → R v w')) ∧
  (∀ w, Ext W w → S w → ∀ o, ops[iM]? = some o → runsAt P o a (fun v w' => Upd fp w w' ∧ R v w') w) ∧
  (∀ o, ops[iM]? = some o → ∀ v w', Upd fp W w' → R v w' → wpAny P .any ops Q T.length (mcanon ops T) (a.put o.dst v) w')

theorem vcore2 {Q : Exit → Act → World → Prop} {D T : List Nat} {G : List (Nat × Rel)} {iM : Nat} {R : Rel} (hsel : ∀ (j : Nat) (o : Oper) cs b, ops[j]? = some o → o.op ≠ .select cs b)
    (hD : List.Pairwise (Pr ops) (D ++ (G.map Prod.fst ++ [iM]))) (hS : ∀ i ∈ D ++ (G.map Prod.fst ++ [iM]), mselfB ops T i = true) (hsink : ∀ t ∈ T, sinkL ops t (D ++ (G.map Prod.fst ++ [iM])) = true) (hM : ∀ g ∈ G, Region.waitsFor .any ops iM g.1 = true) :
    ∀ (m : Nat) (listed : Array Bool) (a : Act) (w : World) (Dr : List Nat) (Gr : List (Nat × Rel)) (S : List (Nat × (World → Prop))), Dr.length + Gr.length + 1 = m → MInv ops T listed →
      (∀ i, i < ops.size → i ∉ T → (listed.getD i true = false ↔ i ∈ Dr ∨ i ∈ Gr.map Prod.fst ++ [iM])) → Dr.Sublist D → Gr.Sublist G → Ext W w → (∀ x ∈ S, x.2 w) →
      (∀ x ∈ S, ∀ w w', Ext w w' → x.2 w → x.2 w') →
      wpU P fp ops W (fun a' => wpGen P ops W (fun a'' S' => MFan P fp ops W Q T iM R a'' S') Gr a' S) Dr a →
      wpAny P .any ops Q (m + T.length) listed a w := by
  have hF : ∀ (a : Act) (S S' : World → Prop), (∀ w, S' w → S w) → MFan P fp ops W Q T iM R a S → MFan P fp ops W Q T iM R a S' :=
    fun a S S' h h1 => ⟨h1.1, fun w hw hs => h1.2.1 w hw (h _ hs), h1.2.2⟩
  intro m
  induction m with
  | zero =>
    intro listed a w Dr Gr S hm
    omega
  | succ m ih =>
    intro listed a w Dr Gr S hm inv hun hDr hGr hb hs hmono h
    rw [show m + 1 + T.length = (m + T.length) + 1 by omega]
    obtain ⟨Ar, hAr⟩ : ∃ Ar, Gr.map Prod.fst ++ [iM] = Ar := ⟨_, rfl⟩
    obtain ⟨A, hA⟩ : ∃ A, G.map Prod.fst ++ [iM] = A := ⟨_, rfl⟩
    have hlenA : Ar.length = Gr.length + 1 := by rw [← hAr, List.length_append, List.length_map]; rfl
    rw [hA] at hD hS hsink
    rw [hAr] at hun
    have hArs : Ar.Sublist A := by rw [← hAr, ← hA]; exact (hGr.map _).append (List.Sublist.refl _)
    have hsub : (Dr ++ Ar).Sublist (D ++ A) := hDr.append hArs
    have hpw : List.Pairwise (Pr ops) (Dr ++ Ar) := hD.sublist hsub
    have hmem : ∀ i ∈ Dr ++ Ar, mselfB ops T i = true := fun i hi => hS i (hsub.subset hi)
    have hlt : ∀ i ∈ Dr ++ Ar, i < ops.size ∧ i ∉ T := fun i hi => by
      have := hmem i hi
      simp only [mselfB, Bool.and_eq_true, decide_eq_true_eq] at this
      exact this.1.2
    have hunl : ∀ i ∈ Dr ++ Ar, listed.getD i true = false := fun i hi => (hun i (hlt i hi).1 (hlt i hi).2).2 (List.mem_append.1 hi)
    -- what is ready does not wait for what has not come up
    have hready : ∀ i ∈ Region.ready .any ops listed, ∀ k, listed.getD k true = false → Region.waitsFor .any ops i k = false := fun i hi k hk => by
      cases hw : Region.waitsFor .any ops i k with
      | false => rfl
      | true =>
        obtain ⟨oj, hoj, e, he, hbd, hon⟩ := Region.waitsFor_spec hw
        obtain ⟨_, o, ho, hall⟩ := mem_ready.1 hi
        obtain rfl : o = oj := Option.some.inj (ho.symm.trans hoj)
        have := hall e he hbd
        rw [hon, getD_both hk] at this
        cases this
    constructor
    · -- the first of what is left is ready
      intro hnil
      exfalso
      obtain ⟨x, xs, hx⟩ : ∃ x xs, Dr ++ Ar = x :: xs := by
        cases hl : Dr ++ Ar with
        | nil => have := congrArg List.length hl; simp only [List.length_append, List.length_nil] at this; omega
        | cons x xs => exact ⟨x, xs, rfl⟩
      have hxm : x ∈ Dr ++ Ar := by rw [hx]; exact List.mem_cons_self ..
      have hsx := hmem x hxm
      have hself := hsx
      simp only [mselfB, Bool.and_eq_true, decide_eq_true_eq, Bool.not_eq_true'] at hsx
      obtain ⟨⟨hs1, hs2⟩, hs3⟩ := hsx
      cases ho : ops[x]? with
      | none => rw [ho] at hs3; cases hs3
      | some o =>
        rw [ho] at hs3
        have : x ∈ Region.ready .any ops listed := mem_ready.2 ⟨hunl x hxm, o, ho, fun e he hbd => by
          have h1 := (Array.all_eq_true'.1 hs3) e he
          simp only [hbd, Bool.not_true, Bool.false_or, decide_eq_true_eq] at h1
          cases hl : listed.getD e.on false with
          | true => rfl
          | false =>
            have hl' : listed.getD e.on true = false := getD_in (by rw [inv.size]; exact h1.1) hl
            have hin := (hun e.on h1.1 h1.2).1 hl'
            have hin' : e.on ∈ x :: xs := by rw [← hx]; exact List.mem_append.2 hin
            have hwt := waits_of ho he hbd rfl
            rcases List.mem_cons.1 hin' with hh | hh
            · rw [hh, hs1] at hwt; cases hwt
            · rw [hx] at hpw
              have := (List.pairwise_cons.1 hpw).1 _ hh
              rw [this.2.1] at hwt; cases hwt⟩
        rw [hnil] at this
        cases this
    · intro i hi
      have hiu := (mem_ready.1 hi).1
      obtain ⟨_, o, ho, _⟩ := mem_ready.1 hi
      have hisz : i < ops.size := (Array.getElem?_eq_some_iff.1 ho).1
      by_cases hin : i ∉ T
      · have hset : ∀ (X Y : List Nat), (∀ j, j < ops.size → j ∉ T → j ≠ i → ((j ∈ Dr ∨ j ∈ Ar) ↔ (j ∈ X ∨ j ∈ Y))) → i ∉ X → i ∉ Y → ∀ j, j < ops.size → j ∉ T → ((listed.setIfInBounds i true).getD j true = false ↔ j ∈ X ∨ j ∈ Y) := fun X Y hXY hX hY j hj hjT => by
          by_cases hji : i = j
          · subst hji
            have h1 : (listed.setIfInBounds i true).getD i true = true := by
              have : i < listed.size := by rw [inv.size]; exact hisz
              simp [this]
            rw [h1]
            simp [hX, hY]
          · rw [getD_set_ne true hji, hun j hj hjT, hXY j hj hjT (fun h => hji h.symm)]
        rcases (hun i hisz hin).1 hiu with hmD | hmA
        · obtain ⟨l1, l2, rfl⟩ := List.append_of_mem hmD
          have hpwD : List.Pairwise (Pr ops) (l1 ++ i :: l2) := hpw.sublist (List.sublist_append_left ..)
          have hap : ∀ k ∈ l1, apB ops k i = true := fun k hk => by
            have h1 := (List.pairwise_append.1 hpwD).2.2 k hk i (List.mem_cons_self ..)
            rcases h1.1 with h2 | h2
            · rw [hready i hi k (hunl k (List.mem_append_left _ (List.mem_append_left _ hk)))] at h2; cases h2
            · exact h2
          obtain ⟨o', v, ho', hy, hr⟩ := u_pick hsel l1 a hap h
          obtain rfl : o' = o := Option.some.inj (ho'.symm.trans ho)
          have hsl : (l1 ++ l2).Sublist (l1 ++ i :: l2) := (List.Sublist.refl l1).append (List.sublist_cons_self ..)
          have hni : i ∉ l1 ++ l2 ∧ i ∉ Ar := by
            have h1 := List.pairwise_append.1 hpwD
            refine ⟨fun hm' => ?_, fun hm' => ?_⟩
            · rcases List.mem_append.1 hm' with hm' | hm'
              · exact (h1.2.2 i hm' i (List.mem_cons_self ..)).2.2 rfl
              · exact ((List.pairwise_cons.1 h1.2.1).1 i hm').2.2 rfl
            · exact ((List.pairwise_append.1 hpw).2.2 i (by simp) i hm').2.2 rfl
          refine hy.op ho (upd_of_ext hb) (fun w' hw' => ih _ _ w' (l1 ++ l2) Gr S (by simp at hm ⊢; omega) (inv.set hi hin) (by rw [hAr]; exact hset _ _ (fun j _ _ hji => by simp [hji]) hni.1 hni.2) (hsl.trans hDr) hGr
            (ext_trans hb hw') (fun x hx => hmono x hx _ _ hw' (hs x hx)) hmono hr)
        · rw [← hAr] at hmA
          refine Or.elim (List.mem_append.1 hmA).symm (fun hmA => ?_) (fun hmA => ?_)
          · obtain rfl : i = iM := by simpa using hmA
            have hGr0 : Gr = [] := by
              cases Gr with
              | nil => rfl
              | cons g r =>
                have h1 := hM g (hGr.subset (List.mem_cons_self ..))
                rw [hready i hi g.1 (hunl g.1 (by rw [← hAr]; simp))] at h1
                cases h1
            subst hGr0
            have hpw2 := List.pairwise_append.1 hpw
            have hapD : ∀ k ∈ Dr, apB ops k i = true := fun k hk => by
              have h1 := hpw2.2.2 k hk i (by rw [← hAr]; simp)
              rcases h1.1 with h2 | h2
              · rw [hready i hi k (hunl k (List.mem_append_left _ hk))] at h2; cases h2
              · exact h2
            obtain ⟨a1, hf1, he1⟩ := u_out hsel ho Dr a hapD h
            obtain ⟨⟨o', ho', hg, hmR⟩, hrun1, _⟩ := hf1
            obtain rfl : o' = o := Option.some.inj (ho'.symm.trans ho)
            have hrun := runsAt_same he1.symm (hrun1 w hb (fun x hx => hs x hx) _ ho)
            have hni : i ∉ Dr := fun hm' => (hpw2.2.2 i hm' i (by rw [← hAr]; simp)).2.2 rfl
            refine runsAt_op ho hg hrun (fun v w' hv => ?_)
            have hm2 : Dr.length = m := by simp at hm; omega
            refine vcore1 (fp := fp) (W := W) (DA := D ++ A) hsel hD hS hsink m _ _ w' Dr (fun w => R v w) hm2 (inv.set hi hin) (fun j hj hjT => ?_) (hDr.trans (List.sublist_append_left ..)) (upd_trans (upd_of_ext (fp := fp) hb) hv.1 (fun b hb' h => h)) hv.2 (fun w1 w2 h12 h1 => hmR _ _ _ h12 h1) ?_
            · have := hset Dr [] (fun j' _ _ hji => by rw [← hAr]; simp [hji]) hni (by simp) j hj hjT
              simpa using this
            · refine wpU_mono ?_ _ _ (u_put hsel ho v Dr a hapD h)
              rintro a' ⟨a0, rfl, he0, hf0⟩
              exact fun w1 hw1 hs1 => hf0.2.2 _ ho v w1 hw1 hs1
          obtain ⟨⟨i', R'⟩, hmG, hii⟩ := List.mem_map.1 hmA
          simp only at hii
          subst hii
          obtain ⟨l1, l2, rfl⟩ := List.append_of_mem hmG
          have hAr' : Ar = l1.map Prod.fst ++ i' :: (l2.map Prod.fst ++ [iM]) := by rw [← hAr]; simp
          have hpw2 := List.pairwise_append.1 hpw
          have hapD : ∀ k ∈ Dr, apB ops k i' = true := fun k hk => by
            have h1 := hpw2.2.2 k hk i' (by rw [hAr']; simp)
            rcases h1.1 with h2 | h2
            · rw [hready i' hi k (hunl k (List.mem_append_left _ hk))] at h2; cases h2
            · exact h2
          have hapG : ∀ k ∈ l1, apB ops k.1 i' = true ∧ Region.waitsFor .any ops i' k.1 = false := fun k hk => by
            have hkm : k.1 ∈ l1.map Prod.fst := List.mem_map.2 ⟨k, hk, rfl⟩
            have hw := hready i' hi k.1 (hunl k.1 (List.mem_append_right _ (by rw [hAr']; exact List.mem_append_left _ hkm)))
            have h3 := hpw2.2.1
            rw [hAr'] at h3
            have h1 := (List.pairwise_append.1 h3).2.2 k.1 hkm i' (List.mem_cons_self ..)
            rcases h1.1 with h2 | h2
            · rw [hw] at h2; cases h2
            · exact ⟨h2, hw⟩
          have hpickG := fun (a' : Act) (hh : wpGen P ops W (fun a'' S' => MFan P fp ops W Q T iM R a'' S') (l1 ++ (i', R') :: l2) a' S) => gen_pick hsel hF l1 a' S hapG hh
          obtain ⟨a1, hf1, he1⟩ := u_out hsel ho Dr a hapD h
          obtain ⟨o', ho', hg, hmR, hrun1, _⟩ := hpickG a1 hf1
          obtain rfl : o' = o := Option.some.inj (ho'.symm.trans ho)
          have hrun := runsAt_same he1.symm (hrun1 w hb (fun x hx _ => hs x hx))
          have hsl : (l1 ++ l2).Sublist (l1 ++ (i', R') :: l2) := (List.Sublist.refl l1).append (List.sublist_cons_self ..)
          have hni : i' ∉ Dr ∧ i' ∉ (l1 ++ l2).map Prod.fst ++ [iM] := by
            have h3 := hpw2.2.1
            rw [hAr'] at h3
            have h1 := List.pairwise_append.1 h3
            refine ⟨fun hm' => (hpw2.2.2 i' hm' i' (by rw [hAr']; simp)).2.2 rfl, fun hm' => ?_⟩
            rw [List.map_append, List.append_assoc] at hm'
            rcases List.mem_append.1 hm' with hm' | hm'
            · exact (h1.2.2 i' hm' i' (List.mem_cons_self ..)).2.2 rfl
            · exact ((List.pairwise_cons.1 h1.2.1).1 i' hm').2.2 rfl
          refine runsAt_op ho hg hrun (fun v w' hv => ?_)
          refine ih _ _ w' Dr (l1 ++ l2) ((i', R' v) :: S) (by simp at hm ⊢; omega) (inv.set hi hin) (hset _ _ (fun j _ _ hji => by rw [hAr']; simp [hji]) hni.1 hni.2) hDr (hsl.trans hGr)
            (ext_trans hb hv.1) (fun x hx => ?_) (fun x hx => ?_) ?_
          · rcases List.mem_cons.1 hx with rfl | hx
            · exact hv.2
            · exact hmono x hx _ _ hv.1 (hs x hx)
          · rcases List.mem_cons.1 hx with rfl | hx
            · exact fun w1 w2 h12 h1 => hmR _ _ _ h12 h1
            · exact hmono x hx
          · refine wpU_mono ?_ _ _ (u_put hsel ho v Dr a hapD h)
            rintro a' ⟨a0, rfl, he0, hf0⟩
            obtain ⟨o2, ho2, _, _, _, hr2⟩ := hpickG a0 hf0
            obtain rfl : o2 = o' := Option.some.inj (ho2.symm.trans ho)
            exact hr2 v
      · -- the tail waits
        exfalso
        have hin' : i ∈ T := by simpa using hin
        refine mtail_waits2 hsink inv (L := Dr ++ Ar) hsub ?_ hunl (fun j hj hjT hju => ?_) i hin' hi
        · intro h0
          have := congrArg List.length h0
          simp only [List.length_append, List.length_nil] at this
          omega
        · exact List.mem_append.2 ((hun j hj hjT).1 hju)



theorem wp_region_fan {id : Nat} {l : List Oper} {Q : Exit → Act → World → Prop} {a : Act} (Pre D : List Nat) (G : List (Nat × Rel)) (iM : Nat) (R : Rel) (T A : List Nat) (hA : G.map Prod.fst ++ [iM] = A) (hM : (G.all fun g => Region.waitsFor .any l.toArray iM g.1) = true) (hm : P.follows .mixedOrders = true) (hB : mixF l.toArray Pre D A T = true)
    (hQ : ∀ c a d v w, Q (.panic c) (Act.put a d v) w → Q (.panic c) a w)
    (h : wpPre P l.toArray (fun a0 => wpU P fp l.toArray W (fun a' => wpGen P l.toArray W (fun a'' S' => MFan P fp l.toArray W Q T iM R a'' S') G a' []) D a0) Pre a) :
    (Code.region id l.toArray true).wp P Q a W := by
  subst hA
  simp only [mixF, Bool.and_eq_true, decide_eq_true_eq] at hB
  obtain ⟨⟨⟨⟨⟨⟨⟨⟨⟨hsel, hpre⟩, hp⟩, hs⟩, hk⟩, hinv⟩, hsz⟩, htl⟩, hcov⟩, hlen⟩ := hB
  have hself := List.all_eq_true.1 hs
  refine wp_region_any hm ?_
  suffices key : wpAny P .any l.toArray Q (Pre.length + ((D.length + (G.map Prod.fst ++ [iM]).length) + T.length)) (Array.replicate l.toArray.size false) a { W with drawn := W.drawn + 1 } by
    rw [show Pre.length + ((D.length + (G.map Prod.fst ++ [iM]).length) + T.length) = l.toArray.size by omega] at key
    exact key
  refine wpAny_pre (fuel := (D.length + (G.map Prod.fst ++ [iM]).length) + T.length) hsel hQ Pre _ a hpre (wpPre_mono ?_ _ _ h)
  intro a0 h0
  refine vcore2 (fp := fp) (iM := iM) (R := R) (P := P) (ops := l.toArray) (W := W) (Q := Q) (D := D) (G := G) (T := T) (Region.noSelect_spec hsel) (pairsB_spec _ hp) hself (fun t ht => List.all_eq_true.1 hk t ht) (fun g hg => by simpa using List.all_eq_true.1 hM g hg)
    (D.length + (G.map Prod.fst ++ [iM]).length) _ a0 W.drew D G [] (by rw [List.length_append, List.length_map]; rfl) ⟨hsz, fun j oj hj hl e he hb => ?_, fun t ht hts => ?_⟩ (fun i hi hiT => ?_)
    (List.Sublist.refl _) (List.Sublist.refl _) (ext_drew (ext_refl _)) (fun _ hx => by cases hx) (fun _ hx => by cases hx) h0
  · have h1 := List.all_eq_true.1 hinv j (List.mem_range.2 (Array.getElem?_eq_some_iff.1 hj).1)
    simp only [hl, hj, Bool.not_true, Bool.false_or] at h1
    have h2 := (Array.all_eq_true'.1 h1) e he
    simpa [hb] using h2
  · have h1 := List.all_eq_true.1 htl t ht
    simp only [Bool.or_eq_true, Bool.not_eq_true', decide_eq_true_eq] at h1
    rcases h1 with h1 | h1
    · exact h1
    · omega
  · have h1 := List.all_eq_true.1 hcov i (List.mem_range.2 hi)
    simp only [Bool.or_eq_true, beq_iff_eq] at h1
    rcases h1 with h1 | h1
    · exact absurd (by simpa using h1) hiT
    · rw [h1]
      constructor
      · intro hh
        have h2 : (D ++ (G.map Prod.fst ++ [iM])).contains i = true := by simpa only [Bool.not_eq_false'] using hh
        simp only [List.contains_eq_mem, decide_eq_true_eq] at h2
        exact List.mem_append.1 h2
      · intro hh
        have h2 : (D ++ (G.map Prod.fst ++ [iM])).contains i = true := by
          simp only [List.contains_eq_mem, decide_eq_true_eq]
          exact List.mem_append.2 hh
        rw [h2]; rfl


/-- an exit's post, but for what follows -/
def thenQ (K : Act → World → Prop) (Q : Exit → Act → World → Prop) : Exit → Act → World → Prop
  | .normal, a, w => K a w
  | e, a, w => Q e a w
theorem upon_thenQ (o : Oper) (a : Act) (next K : Act → World → Prop) (Q : Exit → Act → World → Prop) (r : Result Next) : o.upon P a next (thenQ K Q) r = o.upon P a next Q r := by
  unfold Oper.upon
  split <;> rfl
theorem wpOp_list {Q : Exit → Act → World → Prop} {K : Act → World → Prop} {i : Nat} {o : Oper} {a : Act} {w : World} (ho : ops[i]? = some o) (h : wpList P ops (thenQ K Q) [o] a w) : wpOp P ops Q i K a w := by
  unfold wpOp
  rw [ho]
  unfold wpList wpList at h
  simp only
  split
  · rename_i hw
    rw [if_pos hw] at h
    unfold Oper.wp at h ⊢
    rw [upon_thenQ] at h
    exact h
  · rename_i hw
    rw [if_neg hw] at h
    exact h
theorem wpAny_end {Q : Exit → Act → World → Prop} {n : Nat} {listed : Array Bool} {a : Act} {w : World} (hr : Region.ready .any ops listed = []) (h : Q .normal a w) : wpAny P .any ops Q n listed a w := by
  cases n with
  | zero => exact ⟨hr, h⟩
  | succ n => exact ⟨fun _ => h, fun i hi => by rw [hr] at hi; cases hi⟩
theorem wpAny_one {Q : Exit → Act → World → Prop} {n i : Nat} {o : Oper} {listed : Array Bool} {a : Act} {w : World} (hr : Region.ready .any ops listed = [i]) (ho : ops[i]? = some o) (h : wpList P ops (thenQ (wpAny P .any ops Q n (listed.setIfInBounds i true)) Q) [o] a w) : wpAny P .any ops Q (n + 1) listed a w := by
  refine ⟨fun h1 => (by rw [hr] at h1; cases h1), fun j hj => ?_⟩
  rw [hr, List.mem_singleton] at hj
  subst hj
  exact wpOp_list ho h
theorem wpAny_two {Q : Exit → Act → World → Prop} {n i j : Nat} {o p : Oper} {listed : Array Bool} {a : Act} {w : World} (hr : Region.ready .any ops listed = [i, j]) (ho : ops[i]? = some o) (hp : ops[j]? = some p)
    (h : wpList P ops (thenQ (wpAny P .any ops Q n (listed.setIfInBounds i true)) Q) [o] a w) (k : wpList P ops (thenQ (wpAny P .any ops Q n (listed.setIfInBounds j true)) Q) [p] a w) : wpAny P .any ops Q (n + 1) listed a w := by
  refine ⟨fun h1 => (by rw [hr] at h1; cases h1), fun x hx => ?_⟩
  rw [hr, List.mem_cons, List.mem_singleton] at hx
  rcases hx with rfl | rfl
  · exact wpOp_list ho h
  · exact wpOp_list hp k
end Go.Proofs.Ytiabmdboacpmcaa
/- A region that draws its order, walked once: operations of which a relation is known, some of which turn memory ('loud'). -/
namespace Go.Proofs.Ytiabmdboacpmcaa
open Go Go.RowKit Go.Sort

section
variable {P : Program} {ops : Array Oper} {W : World} {fp : Nat → Prop} {Lo : World → World → Prop} {LL : List Nat}

theorem runsAt_mono {o : Oper} {a : Act} {R R' : Value → World → Prop} {w : World} (hR : ∀ v w', R v w' → R' v w') (h : runsAt P o a R w) : runsAt P o a R' w := by
  unfold runsAt at *
  generalize (execOp a.eval o).run P w = r at *
  cases r with
  | ok n w' =>
    cases n <;> simp only at h ⊢
    case value u => exact hR _ _ h
    case skip => exact hR _ _ h
    case enter f args => exact h.mono (fun e w'' ⟨v, he, hv⟩ => ⟨v, he, hR _ _ hv⟩)
    case row row args => exact h.mono (fun v w'' hv => hR _ _ hv)
  | halt x w' => simp only at h
/-- what an operation waits for, through others -/
def wT (ops : Array Oper) : Nat → Nat → Nat → Bool
  | 0, _, _ => false
  | n + 1, i, j => match ops[i]? with
    | some o => o.after.any (fun e => Region.binds .any e && (e.on == j || wT ops n e.on j))
    | none => false
theorem wT_listed {T : List Nat} {listed : Array Bool} (inv : MInv ops T listed) : ∀ (n i j : Nat), listed.getD i false = true → wT ops n i j = true → listed.getD j false = true
  | 0, _, _, _, h => by cases h
  | n + 1, i, j, hi, h => by
    rw [wT] at h
    cases ho : ops[i]? with
    | none => rw [ho] at h; cases h
    | some o =>
      rw [ho] at h
      obtain ⟨e, he, hb⟩ := Array.any_eq_true'.1 h
      simp only [Bool.and_eq_true, Bool.or_eq_true, beq_iff_eq] at hb
      have h1 := inv.closed i o ho hi e he hb.1
      rcases hb.2 with h2 | h2
      · rw [← h2]; exact h1
      · exact wT_listed inv n e.on j h1 h2
theorem wT_ready {T : List Nat} {listed : Array Bool} (inv : MInv ops T listed) {n i j : Nat} (hi : i ∈ Region.ready .any ops listed) (h : wT ops n i j = true) : listed.getD j false = true := by
  obtain ⟨_, o, ho, hall⟩ := mem_ready.1 hi
  cases n with
  | zero => cases h
  | succ n =>
    rw [wT, ho] at h
    obtain ⟨e, he, hb⟩ := Array.any_eq_true'.1 h
    simp only [Bool.and_eq_true, Bool.or_eq_true, beq_iff_eq] at hb
    have h1 := hall e he hb.1
    rcases hb.2 with h2 | h2
    · rw [← h2]; exact h1
    · exact wT_listed inv n e.on j h1 h2
/-- an entry: whose it is, whether it stands a loud step, what it says -/
abbrev Ent := Nat × Bool × (World → Prop)
/-- i may use the entry x -/
def useB (ops : Array Oper) (LL : List Nat) (x : Ent) (i : Nat) : Bool := wT ops 9 i x.1 && (x.2.1 || LL.all (fun L => L == i || wT ops 9 L i || x.1 == L || wT ops 9 x.1 L))
/-- an entry that holds at the end -/
def lastB (ops : Array Oper) (LL : List Nat) (x : Ent) : Bool := x.2.1 || LL.all (fun L => x.1 == L || wT ops 9 x.1 L)
def wpGy (P : Program) (ops : Array Oper) (fp : Nat → Prop) (W : World) (Lo : World → World → Prop) (LL : List Nat) (Fin : Act → (World → Prop) → Prop) : List (Nat × Bool × Rel) → Act → List Ent → Prop
  | [], a, S => Fin a (fun w => ∀ x ∈ S, lastB ops LL x = true → x.2.2 w)
  | (i, hd, R) :: l, a, S => ∃ o, ops[i]? = some o ∧ o.guard = none ∧ (∀ v w w', Ext w w' → R v w → R v w') ∧ (hd = true → ∀ v w w', Upd fp W w → Lo w w' → R v w → R v w') ∧
      (∀ w, Upd fp W w → (∀ x ∈ S, useB ops LL x i = true → x.2.2 w) → runsAt P o a (fun v w' => (LL.contains i = false → Ext w w') ∧ (LL.contains i = true → Lo w w') ∧ R v w') w) ∧
      ∀ v, wpGy P ops fp W Lo LL Fin l (a.put o.dst v) ((i, hd, R v) :: S)

theorem wpGy_mem {Fin : Act → (World → Prop) → Prop} (hF : ∀ a S S', (∀ w, S' w → S w) → Fin a S → Fin a S') : ∀ (l : List (Nat × Bool × Rel)) (a : Act) (S S' : List Ent), (∀ x ∈ S, x ∈ S') → wpGy P ops fp W Lo LL Fin l a S → wpGy P ops fp W Lo LL Fin l a S'
  | [], a, S, S', hS, h => hF a _ _ (fun _ hw x hx => hw x (hS x hx)) h
  | (i, hd, R) :: l, a, S, S', hS, ⟨o, ho, hg, hm, hm2, hr, h⟩ => ⟨o, ho, hg, hm, hm2, fun w hw hx => hr w hw (fun x h1 h2 => hx x (hS x h1) h2), fun v => wpGy_mem hF l _ _ _ (fun x hx => by
      rcases List.mem_cons.1 hx with rfl | hx
      · exact List.mem_cons_self ..
      · exact List.mem_cons_of_mem _ (hS x hx)) (h v)⟩

theorem gy_pick (hsel : ∀ (j : Nat) (o : Oper) cs b, ops[j]? = some o → o.op ≠ .select cs b) {Fin : Act → (World → Prop) → Prop} (hF : ∀ a S S', (∀ w, S' w → S w) → Fin a S → Fin a S') {i : Nat} {hd : Bool} {R : Rel} {l2 : List (Nat × Bool × Rel)} :
    ∀ (l1 : List (Nat × Bool × Rel)) (a : Act) (S : List Ent), (∀ k ∈ l1, apB ops k.1 i = true ∧ wT ops 9 i k.1 = false) → wpGy P ops fp W Lo LL Fin (l1 ++ (i, hd, R) :: l2) a S →
    ∃ o, ops[i]? = some o ∧ o.guard = none ∧ (∀ v w w', Ext w w' → R v w → R v w') ∧ (hd = true → ∀ v w w', Upd fp W w → Lo w w' → R v w → R v w') ∧
      (∀ w, Upd fp W w → (∀ x ∈ S, useB ops LL x i = true → x.2.2 w) → runsAt P o a (fun v w' => (LL.contains i = false → Ext w w') ∧ (LL.contains i = true → Lo w w') ∧ R v w') w) ∧
      ∀ v, wpGy P ops fp W Lo LL Fin (l1 ++ l2) (a.put o.dst v) ((i, hd, R v) :: S)
  | [], _, _, _, h => h
  | (k, hk', Rk) :: l1, a, S, hap, ⟨ok, hk, hgk, hmk, hmk2, hrk, hr⟩ => by
    have ihv := fun (v : Value) => gy_pick hsel hF l1 _ _ (fun x hx => hap x (List.mem_cons_of_mem _ hx)) (hr v)
    obtain ⟨o, hi, hg, hm, hm2, hrun, _⟩ := ihv undef
    have hapk := hap (k, hk', Rk) (List.mem_cons_self ..)
    obtain ⟨h1, h2, h3⟩ := Oper.apart_spec (apB_spec hk hi hapk.1)
    have he : ∀ u, execOp (a.put ok.dst u).eval o = execOp a.eval o := fun u => execOp_put o (fun cs b => hsel i o cs b hi) a _ _ h1
    refine ⟨o, hi, hg, hm, hm2, fun w hw hx => ?_, fun v => ⟨ok, hk, hgk, hmk, hmk2, fun w hw hx => ?_, fun vk => ?_⟩⟩
    · refine runsAt_same (he undef).symm (hrun w hw (fun x hx1 hx2 => ?_))
      rcases List.mem_cons.1 hx1 with rfl | hx1
      · simp only [useB, hapk.2, Bool.false_and] at hx2; cases hx2
      · exact hx x hx1 hx2
    · exact runsAt_same (execOp_put ok (fun cs b => hsel k ok cs b hk) a _ _ h3) (hrk w hw (fun x hx1 hx2 => hx x (List.mem_cons_of_mem _ hx1) hx2))
    · obtain ⟨o', hi', _, _, _, _, hr'⟩ := ihv vk
      obtain rfl : o' = o := Option.some.inj (hi'.symm.trans hi)
      have := hr' v
      rw [Act.put_comm a vk v h2] at this
      refine wpGy_mem hF _ _ _ _ (fun x hx => ?_) this
      rcases List.mem_cons.1 hx with rfl | hx
      · exact List.mem_cons_of_mem _ (List.mem_cons_self ..)
      · rcases List.mem_cons.1 hx with rfl | hx
        · exact List.mem_cons_self ..
        · exact List.mem_cons_of_mem _ (List.mem_cons_of_mem _ hx)

theorem ycore {Q : Exit → Act → World → Prop} {D T : List Nat} {G : List (Nat × Bool × Rel)} (hLo : ∀ w w', Upd fp W w → Lo w w' → Upd fp W w') (hsel : ∀ (j : Nat) (o : Oper) cs b, ops[j]? = some o → o.op ≠ .select cs b)
    (hD : List.Pairwise (Pr ops) (D ++ G.map Prod.fst)) (hS : ∀ i ∈ D ++ G.map Prod.fst, mselfB ops T i = true) (hsink : ∀ t l, T = t :: l → sinkL ops t (D ++ G.map Prod.fst) = true) (hchain : chainL ops T = true) (hseq : seqL ops T (mcanon ops T) = true) :
    ∀ (m : Nat) (listed : Array Bool) (a : Act) (w : World) (Dr : List Nat) (Gr : List (Nat × Bool × Rel)) (S : List Ent), Dr.length + Gr.length = m → MInv ops T listed →
      (∀ i, i < ops.size → i ∉ T → (listed.getD i true = false ↔ i ∈ Dr ∨ i ∈ Gr.map Prod.fst)) → Dr.Sublist D → Gr.Sublist G → Upd fp W w → (∀ x ∈ S, (x.2.1 = true ∨ ∀ L ∈ LL, listed.getD L false = false ∨ x.1 = L ∨ wT ops 9 x.1 L = true) → x.2.2 w) → (∀ x ∈ S, listed.getD x.1 false = true) →
      (∀ x ∈ S, ∀ w w', Ext w w' → x.2.2 w → x.2.2 w') → (∀ x ∈ S, x.2.1 = true → ∀ w w', Upd fp W w → Lo w w' → x.2.2 w → x.2.2 w') →
      wpU P fp ops W (fun a' => wpGy P ops fp W Lo LL (fun a'' S' => ∀ w', Upd fp W w' → S' w' → wpSeq P ops Q T a'' w') Gr a' S) Dr a →
      wpAny P .any ops Q (m + T.length) listed a w := by
  have hF : ∀ (a : Act) (S S' : World → Prop), (∀ w, S' w → S w) → (∀ w', Upd fp W w' → S w' → wpSeq P ops Q T a w') → (∀ w', Upd fp W w' → S' w' → wpSeq P ops Q T a w') :=
    fun a S S' h h1 w' hw hs => h1 w' hw (h _ hs)
  intro m
  induction m with
  | zero =>
    intro listed a w Dr Gr S hm inv hun hDr hGr hb hs hls hmono hmono2 h
    obtain rfl : Dr = [] := List.eq_nil_of_length_eq_zero (by omega)
    obtain rfl : Gr = [] := List.eq_nil_of_length_eq_zero (by omega)
    have h' : wpSeq P ops Q T a w := h w hb (fun x hx hl => hs x hx (by
      simp only [lastB, Bool.or_eq_true, List.all_eq_true, beq_iff_eq] at hl
      exact hl.imp id (fun h1 L hL => (h1 L hL).elim (fun e => .inr (.inl e)) (fun e => .inr (.inr e)))))
    have hc : listed = mcanon ops T := by
      apply Array.ext_getElem?
      intro i
      by_cases hi : i < ops.size
      · have hl : i < listed.size := by rw [inv.size]; exact hi
        by_cases hin : i ∈ T
        · have h1 := inv.tail i hin hi
          simp [mcanon, hi, hin, hl] at h1 ⊢
          exact h1
        · have h1 := hun i hi hin
          simp only [List.map_nil, List.not_mem_nil, or_self, iff_false, Bool.not_eq_false] at h1
          simp [mcanon, hi, hin, hl] at h1 ⊢
          exact h1
      · rw [Array.getElem?_eq_none (by rw [inv.size]; omega), Array.getElem?_eq_none (by simp [mcanon]; omega)]
    rw [Nat.zero_add]
    exact wpAny_of_seqL T listed a w (by rw [hc]; exact hseq) h'
  | succ m ih =>
    intro listed a w Dr Gr S hm inv hun hDr hGr hb hs hls hmono hmono2 h
    rw [show m + 1 + T.length = (m + T.length) + 1 by omega]
    obtain ⟨Ar, hAr⟩ : ∃ Ar, Gr.map Prod.fst = Ar := ⟨_, rfl⟩
    obtain ⟨A, hA⟩ : ∃ A, G.map Prod.fst = A := ⟨_, rfl⟩
    have hlenA : Ar.length = Gr.length := by rw [← hAr, List.length_map]
    rw [hA] at hD hS hsink
    rw [hAr] at hun
    have hArs : Ar.Sublist A := by rw [← hAr, ← hA]; exact hGr.map _
    have hsub : (Dr ++ Ar).Sublist (D ++ A) := hDr.append hArs
    have hpw : List.Pairwise (Pr ops) (Dr ++ Ar) := hD.sublist hsub
    have hmem : ∀ i ∈ Dr ++ Ar, mselfB ops T i = true := fun i hi => hS i (hsub.subset hi)
    have hlt : ∀ i ∈ Dr ++ Ar, i < ops.size ∧ i ∉ T := fun i hi => by
      have := hmem i hi
      simp only [mselfB, Bool.and_eq_true, decide_eq_true_eq] at this
      exact this.1.2
    have hunl : ∀ i ∈ Dr ++ Ar, listed.getD i true = false := fun i hi => (hun i (hlt i hi).1 (hlt i hi).2).2 (List.mem_append.1 hi)
    -- what is ready does not wait for what has not come up
    have hready : ∀ i ∈ Region.ready .any ops listed, ∀ k, listed.getD k true = false → Region.waitsFor .any ops i k = false := fun i hi k hk => by
      cases hw : Region.waitsFor .any ops i k with
      | false => rfl
      | true =>
        obtain ⟨oj, hoj, e, he, hbd, hon⟩ := Region.waitsFor_spec hw
        obtain ⟨_, o, ho, hall⟩ := mem_ready.1 hi
        obtain rfl : o = oj := Option.some.inj (ho.symm.trans hoj)
        have := hall e he hbd
        rw [hon, getD_both hk] at this
        cases this
    constructor
    · -- the first of what is left is ready
      intro hnil
      exfalso
      obtain ⟨x, xs, hx⟩ : ∃ x xs, Dr ++ Ar = x :: xs := by
        cases hl : Dr ++ Ar with
        | nil => have := congrArg List.length hl; simp only [List.length_append, List.length_nil] at this; omega
        | cons x xs => exact ⟨x, xs, rfl⟩
      have hxm : x ∈ Dr ++ Ar := by rw [hx]; exact List.mem_cons_self ..
      have hsx := hmem x hxm
      have hself := hsx
      simp only [mselfB, Bool.and_eq_true, decide_eq_true_eq, Bool.not_eq_true'] at hsx
      obtain ⟨⟨hs1, hs2⟩, hs3⟩ := hsx
      cases ho : ops[x]? with
      | none => rw [ho] at hs3; cases hs3
      | some o =>
        rw [ho] at hs3
        have : x ∈ Region.ready .any ops listed := mem_ready.2 ⟨hunl x hxm, o, ho, fun e he hbd => by
          have h1 := (Array.all_eq_true'.1 hs3) e he
          simp only [hbd, Bool.not_true, Bool.false_or, decide_eq_true_eq] at h1
          cases hl : listed.getD e.on false with
          | true => rfl
          | false =>
            have hl' : listed.getD e.on true = false := getD_in (by rw [inv.size]; exact h1.1) hl
            have hin := (hun e.on h1.1 h1.2).1 hl'
            have hin' : e.on ∈ x :: xs := by rw [← hx]; exact List.mem_append.2 hin
            have hwt := waits_of ho he hbd rfl
            rcases List.mem_cons.1 hin' with hh | hh
            · rw [hh, hs1] at hwt; cases hwt
            · rw [hx] at hpw
              have := (List.pairwise_cons.1 hpw).1 _ hh
              rw [this.2.1] at hwt; cases hwt⟩
        rw [hnil] at this
        cases this
    · intro i hi
      have hiu := (mem_ready.1 hi).1
      obtain ⟨_, o, ho, _⟩ := mem_ready.1 hi
      have hisz : i < ops.size := (Array.getElem?_eq_some_iff.1 ho).1
      by_cases hin : i ∉ T
      · have hset : ∀ (X Y : List Nat), (∀ j, j < ops.size → j ∉ T → j ≠ i → ((j ∈ Dr ∨ j ∈ Ar) ↔ (j ∈ X ∨ j ∈ Y))) → i ∉ X → i ∉ Y → ∀ j, j < ops.size → j ∉ T → ((listed.setIfInBounds i true).getD j true = false ↔ j ∈ X ∨ j ∈ Y) := fun X Y hXY hX hY j hj hjT => by
          by_cases hji : i = j
          · subst hji
            have h1 : (listed.setIfInBounds i true).getD i true = true := by
              have : i < listed.size := by rw [inv.size]; exact hisz
              simp [this]
            rw [h1]
            simp [hX, hY]
          · rw [getD_set_ne true hji, hun j hj hjT, hXY j hj hjT (fun h => hji h.symm)]
        have hback : ∀ L, (listed.setIfInBounds i true).getD L false = false → listed.getD L false = false := fun L h1 => by
          cases h2 : listed.getD L false with
          | false => rfl
          | true => rw [getD_set_true h2] at h1; cases h1
        have hifalse : listed.getD i false = false := getD_both hiu
        rcases (hun i hisz hin).1 hiu with hmD | hmA
        · obtain ⟨l1, l2, rfl⟩ := List.append_of_mem hmD
          have hpwD : List.Pairwise (Pr ops) (l1 ++ i :: l2) := hpw.sublist (List.sublist_append_left ..)
          have hap : ∀ k ∈ l1, apB ops k i = true := fun k hk => by
            have h1 := (List.pairwise_append.1 hpwD).2.2 k hk i (List.mem_cons_self ..)
            rcases h1.1 with h2 | h2
            · rw [hready i hi k (hunl k (List.mem_append_left _ (List.mem_append_left _ hk)))] at h2; cases h2
            · exact h2
          obtain ⟨o', v, ho', hy, hr⟩ := u_pick hsel l1 a hap h
          obtain rfl : o' = o := Option.some.inj (ho'.symm.trans ho)
          have hsl : (l1 ++ l2).Sublist (l1 ++ i :: l2) := (List.Sublist.refl l1).append (List.sublist_cons_self ..)
          have hni : i ∉ l1 ++ l2 ∧ i ∉ Ar := by
            have h1 := List.pairwise_append.1 hpwD
            refine ⟨fun hm' => ?_, fun hm' => ?_⟩
            · rcases List.mem_append.1 hm' with hm' | hm'
              · exact (h1.2.2 i hm' i (List.mem_cons_self ..)).2.2 rfl
              · exact ((List.pairwise_cons.1 h1.2.1).1 i hm').2.2 rfl
            · exact ((List.pairwise_append.1 hpw).2.2 i (by simp) i hm').2.2 rfl
          refine hy.op ho hb (fun w' hw' => ih _ _ w' (l1 ++ l2) Gr S (by simp at hm ⊢; omega) (inv.set hi hin) (by rw [hAr]; exact hset _ _ (fun j _ _ hji => by simp [hji]) hni.1 hni.2) (hsl.trans hDr) hGr
            (upd_ext hb hw') (fun x hx hv => hmono x hx _ _ hw' (hs x hx (hv.imp id (fun h1 L hL => (h1 L hL).imp (hback L) id)))) (fun x hx => getD_set_true (hls x hx)) hmono hmono2 hr)
        · rw [← hAr] at hmA
          obtain ⟨⟨i', hd, R⟩, hmG, hii⟩ := List.mem_map.1 hmA
          simp only at hii
          subst hii
          obtain ⟨l1, l2, rfl⟩ := List.append_of_mem hmG
          have hAr' : Ar = l1.map Prod.fst ++ i' :: l2.map Prod.fst := by rw [← hAr]; simp
          have hpw2 := List.pairwise_append.1 hpw
          have hapD : ∀ k ∈ Dr, apB ops k i' = true := fun k hk => by
            have h1 := hpw2.2.2 k hk i' (by rw [hAr']; simp)
            rcases h1.1 with h2 | h2
            · rw [hready i' hi k (hunl k (List.mem_append_left _ hk))] at h2; cases h2
            · exact h2
          have hapG : ∀ k ∈ l1, apB ops k.1 i' = true ∧ wT ops 9 i' k.1 = false := fun k hk => by
            have hkm : k.1 ∈ l1.map Prod.fst := List.mem_map.2 ⟨k, hk, rfl⟩
            have hw := hready i' hi k.1 (hunl k.1 (List.mem_append_right _ (by rw [hAr']; exact List.mem_append_left _ hkm)))
            have h3 := hpw2.2.1
            rw [hAr'] at h3
            have h1 := (List.pairwise_append.1 h3).2.2 k.1 hkm i' (List.mem_cons_self ..)
            rcases h1.1 with h2 | h2
            · rw [hw] at h2; cases h2
            · refine ⟨h2, ?_⟩
              cases hT : wT ops 9 i' k.1 with
              | false => rfl
              | true =>
                have h4 := wT_ready inv hi hT
                rw [getD_both (hunl k.1 (List.mem_append_right _ (by rw [hAr']; exact List.mem_append_left _ hkm)))] at h4
                cases h4
          have hpickG := fun (a' : Act) (hh : wpGy P ops fp W Lo LL (fun a'' S' => ∀ w', Upd fp W w' → S' w' → wpSeq P ops Q T a'' w') (l1 ++ (i', hd, R) :: l2) a' S) => gy_pick hsel hF l1 a' S hapG hh
          obtain ⟨a1, hf1, he1⟩ := u_out hsel ho Dr a hapD h
          obtain ⟨o', ho', hg, hmR, hmR2, hrun1, _⟩ := hpickG a1 hf1
          obtain rfl : o' = o := Option.some.inj (ho'.symm.trans ho)
          have hrun := runsAt_same he1.symm (hrun1 w hb (fun x hx hu => hs x hx (by
            simp only [useB, Bool.and_eq_true, Bool.or_eq_true, List.all_eq_true, beq_iff_eq] at hu
            refine hu.2.imp id (fun h1 L hL => ?_)
            rcases h1 L hL with ((h2 | h2) | h2) | h2
            · rw [h2]; exact .inl hifalse
            · refine .inl ?_
              cases h3 : listed.getD L false with
              | false => rfl
              | true => rw [wT_listed inv 9 L i' h3 h2] at hifalse; cases hifalse
            · exact .inr (.inl h2)
            · exact .inr (.inr h2))))
          have hsl : (l1 ++ l2).Sublist (l1 ++ (i', hd, R) :: l2) := (List.Sublist.refl l1).append (List.sublist_cons_self ..)
          have hni : i' ∉ Dr ∧ i' ∉ (l1 ++ l2).map Prod.fst := by
            have h3 := hpw2.2.1
            rw [hAr'] at h3
            have h1 := List.pairwise_append.1 h3
            refine ⟨fun hm' => (hpw2.2.2 i' hm' i' (by rw [hAr']; simp)).2.2 rfl, fun hm' => ?_⟩
            rw [List.map_append] at hm'
            rcases List.mem_append.1 hm' with hm' | hm'
            · exact (h1.2.2 i' hm' i' (List.mem_cons_self ..)).2.2 rfl
            · exact ((List.pairwise_cons.1 h1.2.1).1 i' hm').2.2 rfl
          refine runsAt_op ho hg hrun (fun v w' hv => ?_)
          have hub : Upd fp W w' := by
            cases hc : LL.contains i' with
            | false => exact upd_ext hb (hv.1 hc)
            | true => exact hLo _ _ hb (hv.2.1 hc)
          refine ih _ _ w' Dr (l1 ++ l2) ((i', hd, R v) :: S) (by simp at hm ⊢; omega) (inv.set hi hin) (hset _ _ (fun j _ _ hji => by rw [hAr']; simp [hji]) hni.1 hni.2) hDr (hsl.trans hGr)
            hub (fun x hx hval => ?_) (fun x hx => ?_) (fun x hx => ?_) (fun x hx => ?_) ?_
          · rcases List.mem_cons.1 hx with rfl | hx
            · exact hv.2.2
            · have hval0 : x.2.1 = true ∨ ∀ L ∈ LL, listed.getD L false = false ∨ x.1 = L ∨ wT ops 9 x.1 L = true := hval.imp id (fun h1 L hL => (h1 L hL).imp (hback L) id)
              have hxw := hs x hx hval0
              cases hc : LL.contains i' with
              | false => exact hmono x hx _ _ (hv.1 hc) hxw
              | true =>
                rcases hval with h1 | h1
                · exact hmono2 x hx h1 _ _ hb (hv.2.1 hc) hxw
                · exfalso
                  have hil : (listed.setIfInBounds i' true).getD i' false = true := by
                    have : i' < listed.size := by rw [inv.size]; exact hisz
                    simp [this]
                  rcases h1 i' (by simpa using hc) with h2 | h2 | h2
                  · rw [hil] at h2; cases h2
                  · have := hls x hx
                    rw [h2, hifalse] at this; cases this
                  · rw [wT_listed inv 9 x.1 i' (hls x hx) h2] at hifalse; cases hifalse
          · rcases List.mem_cons.1 hx with rfl | hx
            · have : i' < listed.size := by rw [inv.size]; exact hisz
              simp [this]
            · exact getD_set_true (hls x hx)
          · rcases List.mem_cons.1 hx with rfl | hx
            · exact fun w1 w2 h12 h1 => hmR _ _ _ h12 h1
            · exact hmono x hx
          · rcases List.mem_cons.1 hx with rfl | hx
            · exact fun hh w1 w2 hu h12 h1 => hmR2 hh _ _ _ hu h12 h1
            · exact hmono2 x hx
          · refine wpU_mono ?_ _ _ (u_put hsel ho v Dr a hapD h)
            rintro a' ⟨a0, rfl, he0, hf0⟩
            obtain ⟨o2, ho2, _, _, _, _, hr2⟩ := hpickG a0 hf0
            obtain rfl : o2 = o' := Option.some.inj (ho2.symm.trans ho)
            exact hr2 v
      · -- the tail waits
        exfalso
        have hin' : i ∈ T := by simpa using hin
        refine mtail_waits hsink hchain inv (L := Dr ++ Ar) hsub ?_ hunl (fun j hj hjT hju => ?_) i hin' hi
        · intro h0
          have := congrArg List.length h0
          simp only [List.length_append, List.length_nil] at this
          omega
        · exact List.mem_append.2 ((hun j hj hjT).1 hju)



/-- **A region that draws its order, walked once, where of some operations only a relation is known.** -/
theorem wp_region_loud {id : Nat} {l : List Oper} {Q : Exit → Act → World → Prop} {a : Act} (Pre D : List Nat) (LL : List Nat) (G : List (Nat × Bool × Rel)) (T A : List Nat) (Lo : World → World → Prop) (hLo : ∀ w w', Upd fp W w → Lo w w' → Upd fp W w') (hA : G.map Prod.fst = A) (hm : P.follows .mixedOrders = true) (hB : mixB l.toArray Pre D A T = true)
    (hQ : ∀ c a d v w, Q (.panic c) (Act.put a d v) w → Q (.panic c) a w)
    (h : wpPre P l.toArray (fun a0 => wpU P fp l.toArray W (fun a' => wpGy P l.toArray fp W Lo LL (fun a'' S' => ∀ w', Upd fp W w' → S' w' → wpSeq P l.toArray Q T a'' w') G a' []) D a0) Pre a) :
    (Code.region id l.toArray true).wp P Q a W := by
  subst hA
  simp only [mixB, Bool.and_eq_true, decide_eq_true_eq] at hB
  obtain ⟨⟨⟨⟨⟨⟨⟨⟨⟨⟨⟨hsel, hpre⟩, hp⟩, hs⟩, hk⟩, hch⟩, hsq⟩, hinv⟩, hsz⟩, htl⟩, hcov⟩, hlen⟩ := hB
  have hself := List.all_eq_true.1 hs
  refine wp_region_any hm ?_
  suffices key : wpAny P .any l.toArray Q (Pre.length + ((D.length + (G.map Prod.fst).length) + T.length)) (Array.replicate l.toArray.size false) a { W with drawn := W.drawn + 1 } by
    rw [show Pre.length + ((D.length + (G.map Prod.fst).length) + T.length) = l.toArray.size by omega] at key
    exact key
  refine wpAny_pre (fuel := (D.length + (G.map Prod.fst).length) + T.length) hsel hQ Pre _ a hpre (wpPre_mono ?_ _ _ h)
  intro a0 h0
  refine ycore (P := P) (ops := l.toArray) (W := W) (fp := fp) (Lo := Lo) (LL := LL) (Q := Q) (D := D) (G := G) (T := T) hLo (Region.noSelect_spec hsel) (pairsB_spec _ hp) hself (fun t r e => by subst e; exact hk) hch hsq
    (D.length + (G.map Prod.fst).length) _ a0 W.drew D G [] (by rw [List.length_map]) ⟨hsz, fun j oj hj hl e he hb => ?_, fun t ht hts => ?_⟩ (fun i hi hiT => ?_)
    (List.Sublist.refl _) (List.Sublist.refl _) (upd_of_ext (ext_drew (ext_refl _))) (fun _ hx => by cases hx) (fun _ hx => by cases hx) (fun _ hx => by cases hx) (fun _ hx => by cases hx) h0
  · have h1 := List.all_eq_true.1 hinv j (List.mem_range.2 (Array.getElem?_eq_some_iff.1 hj).1)
    simp only [hl, hj, Bool.not_true, Bool.false_or] at h1
    have h2 := (Array.all_eq_true'.1 h1) e he
    simpa [hb] using h2
  · have h1 := List.all_eq_true.1 htl t ht
    simp only [Bool.or_eq_true, Bool.not_eq_true', decide_eq_true_eq] at h1
    rcases h1 with h1 | h1
    · exact h1
    · omega
  · have h1 := List.all_eq_true.1 hcov i (List.mem_range.2 hi)
    simp only [Bool.or_eq_true, beq_iff_eq] at h1
    rcases h1 with h1 | h1
    · exact absurd (by simpa using h1) hiT
    · rw [h1]
      constructor
      · intro hh
        have h2 : (D ++ G.map Prod.fst).contains i = true := by simpa only [Bool.not_eq_false'] using hh
        simp only [List.contains_eq_mem, decide_eq_true_eq, List.mem_append] at h2
        exact h2
      · intro hh
        have h2 : (D ++ G.map Prod.fst).contains i = true := by
          simp only [List.contains_eq_mem, decide_eq_true_eq, List.mem_append]
          exact hh
        rw [h2]; rfl

theorem wpGy_nil {Fin : Act → (World → Prop) → Prop} {a : Act} {S : List Ent} (h : Fin a (fun w => ∀ x ∈ S, lastB ops LL x = true → x.2.2 w)) : wpGy P ops fp W Lo LL Fin [] a S := h
theorem wpGy_step {Fin : Act → (World → Prop) → Prop} {i : Nat} {hd : Bool} {R : Rel} {l : List (Nat × Bool × Rel)} {a : Act} {S : List Ent} {o : Oper} (ho : ops[i]? = some o) (hg : o.guard = none) (hc : LL.contains i = false)
    (hm : ∀ v w w', Ext w w' → R v w → R v w') (hm2 : hd = true → ∀ v w w', Upd fp W w → Lo w w' → R v w → R v w') (hr : ∀ w, Upd fp W w → (∀ x ∈ S, useB ops LL x i = true → x.2.2 w) → runsAt P o a (fun v w' => Ext w w' ∧ R v w') w)
    (h : ∀ v, wpGy P ops fp W Lo LL Fin l (a.put o.dst v) ((i, hd, R v) :: S)) : wpGy P ops fp W Lo LL Fin ((i, hd, R) :: l) a S :=
  ⟨o, ho, hg, hm, hm2, fun w hw hx => runsAt_mono (fun v w' h => ⟨fun _ => h.1, fun hh => by rw [hc] at hh; (cases hh), h.2⟩) (hr w hw hx), h⟩
theorem wpGy_loud {Fin : Act → (World → Prop) → Prop} {i : Nat} {hd : Bool} {R : Rel} {l : List (Nat × Bool × Rel)} {a : Act} {S : List Ent} {o : Oper} (ho : ops[i]? = some o) (hg : o.guard = none) (hc : LL.contains i = true)
    (hm : ∀ v w w', Ext w w' → R v w → R v w') (hm2 : hd = true → ∀ v w w', Upd fp W w → Lo w w' → R v w → R v w') (hr : ∀ w, Upd fp W w → (∀ x ∈ S, useB ops LL x i = true → x.2.2 w) → runsAt P o a (fun v w' => Lo w w' ∧ R v w') w)
    (h : ∀ v, wpGy P ops fp W Lo LL Fin l (a.put o.dst v) ((i, hd, R v) :: S)) : wpGy P ops fp W Lo LL Fin ((i, hd, R) :: l) a S :=
  ⟨o, ho, hg, hm, hm2, fun w hw hx => runsAt_mono (fun v w' h => ⟨fun hh => by rw [hc] at hh; (cases hh), fun _ => h.1, h.2⟩) (hr w hw hx), h⟩

end
end Go.Proofs.Ytiabmdboacpmcaa
