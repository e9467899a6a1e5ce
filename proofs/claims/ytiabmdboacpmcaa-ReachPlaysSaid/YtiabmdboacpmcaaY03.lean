/- Texts joined: Gz Gl. -/
import Derived.Test.YtiabmdboacpmcaaY02
/- A region that draws its order, walked once, its operations guarded as they may be: of each a relation is told. -/
namespace Go.Proofs.Ytiabmdboacpmcaa
open Go Go.RowKit Go.Sort

section
variable {P : Program} {ops : Array Oper} {W : World}

theorem runsAt_opg {i : Nat} {o : Oper} {a : Act} {w : World} {R : Value → World → Prop} {K : Act → World → Prop} {Q : Exit → Act → World → Prop} (hi : ops[i]? = some o) (hw : Region.wanted o (yielded ops a.tmps) = true) (h : runsAt P o a R w)
    (hK : ∀ v w', R v w' → K (a.put o.dst v) w') : wpOp P ops Q i K a w := by
  unfold wpOp
  simp only [hi]
  rw [if_pos hw]
  refine .inl ?_
  unfold Oper.wp
  unfold runsAt at h
  generalize (execOp a.eval o).run P w = r at *
  cases r with
  | ok n w' =>
    cases n <;> simp only at h <;> simp only [Oper.upon]
    case value u => exact hK _ _ h
    case skip => exact hK _ _ h
    case enter f args =>
      refine h.mono ?_
      rintro e w'' ⟨v, rfl, hv⟩
      exact hK _ _ hv
    case row row args => exact h.mono (fun v w'' hv => hK _ _ hv)
  | halt x w' => simp only at h
theorem skipsAt_opg {i : Nat} {o : Oper} {a : Act} {w : World} {K : Act → World → Prop} {Q : Exit → Act → World → Prop} (hi : ops[i]? = some o) (hw : Region.wanted o (yielded ops a.tmps) = false)
    (hK : K (a.put o.dst undef) w) : wpOp P ops Q i K a w := by
  unfold wpOp
  simp only [hi]
  rw [if_neg (by rw [hw]; simp)]
  exact hK
/-- an operation that runs, if it is asked for -/
def opAt (P : Program) (ops : Array Oper) (o : Oper) (a : Act) (R : Value → World → Prop) (w : World) : Prop :=
  if Region.wanted o (yielded ops a.tmps) = true then runsAt P o a (fun v w' => Ext w w' ∧ R v w') w else R undef w
theorem opAt_same {o : Oper} {a a' : Act} {R : Value → World → Prop} {w : World} (he : execOp a'.eval o = execOp a.eval o) (hw : Region.wanted o (yielded ops a'.tmps) = Region.wanted o (yielded ops a.tmps)) (h : opAt P ops o a R w) : opAt P ops o a' R w := by
  unfold opAt at *
  rw [hw]
  split at h <;> rename_i hc
  · rw [if_pos hc]; exact runsAt_same he h
  · rw [if_neg hc]; exact h

theorem runsAt_to {o : Oper} {a : Act} {R R' : Value → World → Prop} {w : World} (hR : ∀ v w', R v w' → R' v w') (h : runsAt P o a R w) : runsAt P o a R' w := by
  unfold runsAt at *
  generalize (execOp a.eval o).run P w = r at *
  cases r with
  | ok n w' =>
    cases n <;> simp only at h ⊢
    case value u => exact hR _ _ h
    case skip => exact hR _ _ h
    case enter f args =>
      refine h.mono ?_
      rintro e w'' ⟨v, rfl, hv⟩
      exact ⟨v, rfl, hR _ _ hv⟩
    case row row args => exact h.mono (fun v w'' hv => hR _ _ hv)
  | halt x w' => simp only at h
theorem loose_outw (hsel : ∀ (j : Nat) (o : Oper) cs b, ops[j]? = some o → o.op ≠ .select cs b) {Fin : Act → Prop} {i : Nat} {o : Oper} (hi : ops[i]? = some o) : ∀ (l : List Nat) (a : Act), (∀ k ∈ l, apB ops k i = true) →
    wpLoose P ops W Fin l a → ∃ a', Fin a' ∧ execOp a'.eval o = execOp a.eval o ∧ Region.wanted o (yielded ops a'.tmps) = Region.wanted o (yielded ops a.tmps)
  | [], a, _, h => ⟨a, h, rfl, rfl⟩
  | k :: l, a, hap, ⟨ok, vk, hk, _, hr⟩ => by
    obtain ⟨h1, _, _⟩ := Oper.apart_spec (apB_spec hk hi (hap k (List.mem_cons_self ..)))
    obtain ⟨a', h, he, hw⟩ := loose_outw hsel hi l _ (fun x hx => hap x (List.mem_cons_of_mem _ hx)) hr
    exact ⟨a', h, he.trans (execOp_put o (fun cs b => hsel i o cs b hi) a _ _ h1), hw.trans (wanted_put o a _ _ h1)⟩

/-- an operation's number, what its value looks like, what is known of it in a world -/
abbrev Ent3 := Nat × Bool × (Value → Prop) × Rel
abbrev DoneZ := Nat × Bool × Value × (World → Prop)
/-- a fresh block -/
def freshV (w : World) (v : Value) (w' : World) : Prop := ∃ g, v = .pointer (some ⟨g, 0, none⟩) ∧ w.heap.size ≤ g ∧ g < w'.heap.size
/-- what is known behind the region: each relation; fresh blocks part -/
def doneAll (S : List DoneZ) (w : World) : Prop := (∀ x ∈ S, x.2.2.2 w) ∧ ∀ x ∈ S, ∀ y ∈ S, x.2.1 = true → y.2.1 = true → x.1 ≠ y.1 → x.2.2.1 ≠ y.2.2.1
theorem doneAll_sub {S S' : List DoneZ} {w : World} (hS : ∀ x ∈ S, x ∈ S') (h : doneAll S' w) : doneAll S w := ⟨fun x hx => h.1 x (hS x hx), fun x hx y hy => h.2 x (hS x hx) y (hS y hy)⟩
def wpGz (P : Program) (ops : Array Oper) (W : World) (Fin : Act → (World → Prop) → Prop) : List Ent3 → Act → List DoneZ → Prop
  | [], a, S => Fin a (doneAll S)
  | (i, fr, C, R) :: l, a, S => ∃ o, ops[i]? = some o ∧ (∀ v w w', Ext w w' → R v w → R v w') ∧ (∃ v, C v) ∧
      (∀ w, Ext W w → (∀ x ∈ S, Region.waitsFor .any ops i x.1 = true → x.2.2.2 w) → opAt P ops o a (fun v w' => C v ∧ R v w' ∧ (fr = true → freshV w v w')) w) ∧
      ∀ v, C v → wpGz P ops W Fin l (a.put o.dst v) ((i, fr, v, R v) :: S)

theorem wpGz_mem {Fin : Act → (World → Prop) → Prop} (hF : ∀ a S S', (∀ w, S' w → S w) → Fin a S → Fin a S') : ∀ (l : List Ent3) (a : Act) (S S' : List DoneZ), (∀ x ∈ S, x ∈ S') → wpGz P ops W Fin l a S → wpGz P ops W Fin l a S'
  | [], a, S, S', hS, h => hF a _ _ (fun _ hw => doneAll_sub hS hw) h
  | (i, fr, C, R) :: l, a, S, S', hS, ⟨o, ho, hm, hc, hr, h⟩ => ⟨o, ho, hm, hc, fun w hw hx => hr w hw (fun x h1 h2 => hx x (hS x h1) h2), fun v h1 => wpGz_mem hF l _ _ _ (fun x hx => by
      rcases List.mem_cons.1 hx with rfl | hx
      · exact List.mem_cons_self ..
      · exact List.mem_cons_of_mem _ (hS x hx)) (h v h1)⟩

theorem gz_pick (hsel : ∀ (j : Nat) (o : Oper) cs b, ops[j]? = some o → o.op ≠ .select cs b) {Fin : Act → (World → Prop) → Prop} (hF : ∀ a S S', (∀ w, S' w → S w) → Fin a S → Fin a S') {i : Nat} {fr : Bool} {C : Value → Prop} {R : Rel} {l2 : List Ent3} :
    ∀ (l1 : List Ent3) (a : Act) (S : List DoneZ), (∀ k ∈ l1, apB ops k.1 i = true ∧ Region.waitsFor .any ops i k.1 = false) → wpGz P ops W Fin (l1 ++ (i, fr, C, R) :: l2) a S →
    ∃ o, ops[i]? = some o ∧ (∀ v w w', Ext w w' → R v w → R v w') ∧ (∃ v, C v) ∧
      (∀ w, Ext W w → (∀ x ∈ S, Region.waitsFor .any ops i x.1 = true → x.2.2.2 w) → opAt P ops o a (fun v w' => C v ∧ R v w' ∧ (fr = true → freshV w v w')) w) ∧
      ∀ v, C v → wpGz P ops W Fin (l1 ++ l2) (a.put o.dst v) ((i, fr, v, R v) :: S)
  | [], _, _, _, h => h
  | (k, fk, Ck, Rk) :: l1, a, S, hap, ⟨ok, hk, hmk, hck, hrk, hr⟩ => by
    have ihv := fun (v : Value) (h1 : Ck v) => gz_pick hsel hF l1 _ _ (fun x hx => hap x (List.mem_cons_of_mem _ hx)) (hr v h1)
    obtain ⟨v0, hv0⟩ := hck
    obtain ⟨o, hi, hm, hc, hrun, _⟩ := ihv v0 hv0
    have hapk := hap (k, fk, Ck, Rk) (List.mem_cons_self ..)
    obtain ⟨h1, h2, h3⟩ := Oper.apart_spec (apB_spec hk hi hapk.1)
    have he : ∀ u, execOp (a.put ok.dst u).eval o = execOp a.eval o := fun u => execOp_put o (fun cs b => hsel i o cs b hi) a _ _ h1
    refine ⟨o, hi, hm, hc, fun w hw hx => ?_, fun v hv => ⟨ok, hk, hmk, ⟨v0, hv0⟩, fun w hw hx => ?_, fun vk hvk => ?_⟩⟩
    · refine opAt_same (he v0).symm (wanted_put o a _ _ h1).symm (hrun w hw (fun x hx1 hx2 => ?_))
      rcases List.mem_cons.1 hx1 with rfl | hx1
      · rw [hapk.2] at hx2; cases hx2
      · exact hx x hx1 hx2
    · exact opAt_same (execOp_put ok (fun cs b => hsel k ok cs b hk) a _ _ h3) (wanted_put ok a _ _ h3) (hrk w hw (fun x hx1 hx2 => hx x (List.mem_cons_of_mem _ hx1) hx2))
    · obtain ⟨o', hi', _, _, _, hr'⟩ := ihv vk hvk
      obtain rfl : o' = o := Option.some.inj (hi'.symm.trans hi)
      have := hr' v hv
      rw [Act.put_comm a vk v h2] at this
      refine wpGz_mem hF _ _ _ _ (fun x hx => ?_) this
      rcases List.mem_cons.1 hx with rfl | hx
      · exact List.mem_cons_of_mem _ (List.mem_cons_self ..)
      · rcases List.mem_cons.1 hx with rfl | hx
        · exact List.mem_cons_self ..
        · exact List.mem_cons_of_mem _ (List.mem_cons_of_mem _ hx)

theorem gzcore {Q : Exit → Act → World → Prop} {D T : List Nat} {G : List Ent3} (hsel : ∀ (j : Nat) (o : Oper) cs b, ops[j]? = some o → o.op ≠ .select cs b)
    (hD : List.Pairwise (Pr ops) (D ++ G.map Prod.fst)) (hS : ∀ i ∈ D ++ G.map Prod.fst, mselfB ops T i = true) (hsink : ∀ t l, T = t :: l → sinkL ops t (D ++ G.map Prod.fst) = true) (hchain : chainL ops T = true) (hseq : seqL ops T (mcanon ops T) = true) :
    ∀ (m : Nat) (listed : Array Bool) (a : Act) (w : World) (Dr : List Nat) (Gr : List Ent3) (S : List DoneZ), Dr.length + Gr.length = m → MInv ops T listed →
      (∀ i, i < ops.size → i ∉ T → (listed.getD i true = false ↔ i ∈ Dr ∨ i ∈ Gr.map Prod.fst)) → Dr.Sublist D → Gr.Sublist G → Ext W w → doneAll S w → (∀ x ∈ S, x.2.1 = true → ∃ g, x.2.2.1 = .pointer (some ⟨g, 0, none⟩) ∧ g < w.heap.size) →
      (∀ x ∈ S, ∀ w w', Ext w w' → x.2.2.2 w → x.2.2.2 w') →
      wpLoose P ops W (fun a' => wpGz P ops W (fun a'' S' => ∀ w', Ext W w' → S' w' → wpSeq P ops Q T a'' w') Gr a' S) Dr a →
      wpAny P .any ops Q (m + T.length) listed a w := by
  have hF : ∀ (a : Act) (S S' : World → Prop), (∀ w, S' w → S w) → (∀ w', Ext W w' → S w' → wpSeq P ops Q T a w') → (∀ w', Ext W w' → S' w' → wpSeq P ops Q T a w') :=
    fun a S S' h h1 w' hw hs => h1 w' hw (h _ hs)
  intro m
  induction m with
  | zero =>
    intro listed a w Dr Gr S hm inv hun hDr hGr hb hs hfr hmono h
    obtain rfl : Dr = [] := List.eq_nil_of_length_eq_zero (by omega)
    obtain rfl : Gr = [] := List.eq_nil_of_length_eq_zero (by omega)
    have h' : wpSeq P ops Q T a w := h w hb hs
    have hc : listed = mcanon ops T := by
      apply Array.ext_getElem?
      intro i
      by_cases hi : i < ops.size
      · have hl : i < listed.size := by rw [inv.size]; exact hi
        by_cases hin : i ∈ T
        · have h1 := inv.tail i hin hi
          simp [mcanon, hi, hin, hl] at h1 ⊢
          exact h1
        · have h1 := hun i hi hin
          simp only [List.map_nil, List.not_mem_nil, or_self, iff_false, Bool.not_eq_false] at h1
          simp [mcanon, hi, hin, hl] at h1 ⊢
          exact h1
      · rw [Array.getElem?_eq_none (by rw [inv.size]; omega), Array.getElem?_eq_none (by simp [mcanon]; omega)]
    rw [Nat.zero_add]
    exact wpAny_of_seqL T listed a w (by rw [hc]; exact hseq) h'
  | succ m ih =>
    intro listed a w Dr Gr S hm inv hun hDr hGr hb hs hfr hmono h
    rw [show m + 1 + T.length = (m + T.length) + 1 by omega]
    obtain ⟨Ar, hAr⟩ : ∃ Ar, Gr.map Prod.fst = Ar := ⟨_, rfl⟩
    obtain ⟨A, hA⟩ : ∃ A, G.map Prod.fst = A := ⟨_, rfl⟩
    have hlenA : Ar.length = Gr.length := by rw [← hAr, List.length_map]
    rw [hA] at hD hS hsink
    rw [hAr] at hun
    have hArs : Ar.Sublist A := by rw [← hAr, ← hA]; exact hGr.map _
    have hsub : (Dr ++ Ar).Sublist (D ++ A) := hDr.append hArs
    have hpw : List.Pairwise (Pr ops) (Dr ++ Ar) := hD.sublist hsub
    have hmem : ∀ i ∈ Dr ++ Ar, mselfB ops T i = true := fun i hi => hS i (hsub.subset hi)
    have hlt : ∀ i ∈ Dr ++ Ar, i < ops.size ∧ i ∉ T := fun i hi => by
      have := hmem i hi
      simp only [mselfB, Bool.and_eq_true, decide_eq_true_eq] at this
      exact this.1.2
    have hunl : ∀ i ∈ Dr ++ Ar, listed.getD i true = false := fun i hi => (hun i (hlt i hi).1 (hlt i hi).2).2 (List.mem_append.1 hi)
    -- what is ready does not wait for what has not come up
    have hready : ∀ i ∈ Region.ready .any ops listed, ∀ k, listed.getD k true = false → Region.waitsFor .any ops i k = false := fun i hi k hk => by
      cases hw : Region.waitsFor .any ops i k with
      | false => rfl
      | true =>
        obtain ⟨oj, hoj, e, he, hbd, hon⟩ := Region.waitsFor_spec hw
        obtain ⟨_, o, ho, hall⟩ := mem_ready.1 hi
        obtain rfl : o = oj := Option.some.inj (ho.symm.trans hoj)
        have := hall e he hbd
        rw [hon, getD_both hk] at this
        cases this
    constructor
    · -- the first of what is left is ready
      intro hnil
      exfalso
      obtain ⟨x, xs, hx⟩ : ∃ x xs, Dr ++ Ar = x :: xs := by
        cases hl : Dr ++ Ar with
        | nil => have := congrArg List.length hl; simp only [List.length_append, List.length_nil] at this; omega
        | cons x xs => exact ⟨x, xs, rfl⟩
      have hxm : x ∈ Dr ++ Ar := by rw [hx]; exact List.mem_cons_self ..
      have hsx := hmem x hxm
      have hself := hsx
      simp only [mselfB, Bool.and_eq_true, decide_eq_true_eq, Bool.not_eq_true'] at hsx
      obtain ⟨⟨hs1, hs2⟩, hs3⟩ := hsx
      cases ho : ops[x]? with
      | none => rw [ho] at hs3; cases hs3
      | some o =>
        rw [ho] at hs3
        have : x ∈ Region.ready .any ops listed := mem_ready.2 ⟨hunl x hxm, o, ho, fun e he hbd => by
          have h1 := (Array.all_eq_true'.1 hs3) e he
          simp only [hbd, Bool.not_true, Bool.false_or, decide_eq_true_eq] at h1
          cases hl : listed.getD e.on false with
          | true => rfl
          | false =>
            have hl' : listed.getD e.on true = false := getD_in (by rw [inv.size]; exact h1.1) hl
            have hin := (hun e.on h1.1 h1.2).1 hl'
            have hin' : e.on ∈ x :: xs := by rw [← hx]; exact List.mem_append.2 hin
            have hwt := waits_of ho he hbd rfl
            rcases List.mem_cons.1 hin' with hh | hh
            · rw [hh, hs1] at hwt; cases hwt
            · rw [hx] at hpw
              have := (List.pairwise_cons.1 hpw).1 _ hh
              rw [this.2.1] at hwt; cases hwt⟩
        rw [hnil] at this
        cases this
    · intro i hi
      have hiu := (mem_ready.1 hi).1
      obtain ⟨_, o, ho, _⟩ := mem_ready.1 hi
      have hisz : i < ops.size := (Array.getElem?_eq_some_iff.1 ho).1
      by_cases hin : i ∉ T
      · have hset : ∀ (X Y : List Nat), (∀ j, j < ops.size → j ∉ T → j ≠ i → ((j ∈ Dr ∨ j ∈ Ar) ↔ (j ∈ X ∨ j ∈ Y))) → i ∉ X → i ∉ Y → ∀ j, j < ops.size → j ∉ T → ((listed.setIfInBounds i true).getD j true = false ↔ j ∈ X ∨ j ∈ Y) := fun X Y hXY hX hY j hj hjT => by
          by_cases hji : i = j
          · subst hji
            have h1 : (listed.setIfInBounds i true).getD i true = true := by
              have : i < listed.size := by rw [inv.size]; exact hisz
              simp [this]
            rw [h1]
            simp [hX, hY]
          · rw [getD_set_ne true hji, hun j hj hjT, hXY j hj hjT (fun h => hji h.symm)]
        rcases (hun i hisz hin).1 hiu with hmD | hmA
        · obtain ⟨l1, l2, rfl⟩ := List.append_of_mem hmD
          have hpwD : List.Pairwise (Pr ops) (l1 ++ i :: l2) := hpw.sublist (List.sublist_append_left ..)
          have hap : ∀ k ∈ l1, apB ops k i = true := fun k hk => by
            have h1 := (List.pairwise_append.1 hpwD).2.2 k hk i (List.mem_cons_self ..)
            rcases h1.1 with h2 | h2
            · rw [hready i hi k (hunl k (List.mem_append_left _ (List.mem_append_left _ hk)))] at h2; cases h2
            · exact h2
          obtain ⟨o', v, ho', hy, hr⟩ := loose_pick hsel l1 a hap h
          obtain rfl : o' = o := Option.some.inj (ho'.symm.trans ho)
          have hsl : (l1 ++ l2).Sublist (l1 ++ i :: l2) := (List.Sublist.refl l1).append (List.sublist_cons_self ..)
          have hni : i ∉ l1 ++ l2 ∧ i ∉ Ar := by
            have h1 := List.pairwise_append.1 hpwD
            refine ⟨fun hm' => ?_, fun hm' => ?_⟩
            · rcases List.mem_append.1 hm' with hm' | hm'
              · exact (h1.2.2 i hm' i (List.mem_cons_self ..)).2.2 rfl
              · exact ((List.pairwise_cons.1 h1.2.1).1 i hm').2.2 rfl
            · exact ((List.pairwise_append.1 hpw).2.2 i (by simp) i hm').2.2 rfl
          refine hy.op ho hb (fun w' hw' => ih _ _ w' (l1 ++ l2) Gr S (by simp at hm ⊢; omega) (inv.set hi hin) (by rw [hAr]; exact hset _ _ (fun j _ _ hji => by simp [hji]) hni.1 hni.2) (hsl.trans hDr) hGr
            (ext_trans hb hw') ⟨fun x hx => hmono x hx _ _ hw' (hs.1 x hx), hs.2⟩ (fun x hx h1 => by obtain ⟨g, h2, h3⟩ := hfr x hx h1; exact ⟨g, h2, Nat.lt_of_lt_of_le h3 (ext_size hw')⟩) hmono hr)
        · rw [← hAr] at hmA
          obtain ⟨⟨i', fr, C, R⟩, hmG, hii⟩ := List.mem_map.1 hmA
          simp only at hii
          subst hii
          obtain ⟨l1, l2, rfl⟩ := List.append_of_mem hmG
          have hAr' : Ar = l1.map Prod.fst ++ i' :: l2.map Prod.fst := by rw [← hAr]; simp
          have hpw2 := List.pairwise_append.1 hpw
          have hapD : ∀ k ∈ Dr, apB ops k i' = true := fun k hk => by
            have h1 := hpw2.2.2 k hk i' (by rw [hAr']; simp)
            rcases h1.1 with h2 | h2
            · rw [hready i' hi k (hunl k (List.mem_append_left _ hk))] at h2; cases h2
            · exact h2
          have hapG : ∀ k ∈ l1, apB ops k.1 i' = true ∧ Region.waitsFor .any ops i' k.1 = false := fun k hk => by
            have hkm : k.1 ∈ l1.map Prod.fst := List.mem_map.2 ⟨k, hk, rfl⟩
            have hw := hready i' hi k.1 (hunl k.1 (List.mem_append_right _ (by rw [hAr']; exact List.mem_append_left _ hkm)))
            have h3 := hpw2.2.1
            rw [hAr'] at h3
            have h1 := (List.pairwise_append.1 h3).2.2 k.1 hkm i' (List.mem_cons_self ..)
            rcases h1.1 with h2 | h2
            · rw [hw] at h2; cases h2
            · exact ⟨h2, hw⟩
          have hpickG := fun (a' : Act) (hh : wpGz P ops W (fun a'' S' => ∀ w', Ext W w' → S' w' → wpSeq P ops Q T a'' w') (l1 ++ (i', fr, C, R) :: l2) a' S) => gz_pick hsel hF l1 a' S hapG hh
          obtain ⟨a1, hf1, he1, hw1⟩ := loose_outw hsel ho Dr a hapD h
          obtain ⟨o', ho', hmR, hcR, hrun1, hrest1⟩ := hpickG a1 hf1
          obtain rfl : o' = o := Option.some.inj (ho'.symm.trans ho)
          have hrun := opAt_same he1.symm hw1.symm (hrun1 w hb (fun x hx _ => hs.1 x hx))
          have hsl : (l1 ++ l2).Sublist (l1 ++ (i', fr, C, R) :: l2) := (List.Sublist.refl l1).append (List.sublist_cons_self ..)
          have hni : i' ∉ Dr ∧ i' ∉ (l1 ++ l2).map Prod.fst := by
            have h3 := hpw2.2.1
            rw [hAr'] at h3
            have h1 := List.pairwise_append.1 h3
            refine ⟨fun hm' => (hpw2.2.2 i' hm' i' (by rw [hAr']; simp)).2.2 rfl, fun hm' => ?_⟩
            rw [List.map_append] at hm'
            rcases List.mem_append.1 hm' with hm' | hm'
            · exact (h1.2.2 i' hm' i' (List.mem_cons_self ..)).2.2 rfl
            · exact ((List.pairwise_cons.1 h1.2.1).1 i' hm').2.2 rfl
          have hstep : ∀ v w', Ext w w' → C v → R v w' → (fr = true → freshV w v w') → wpAny P .any ops Q (m + T.length) (listed.setIfInBounds i' true) (a.put o'.dst v) w' := fun v w' hE hC hv hfv => by
            refine ih _ _ w' Dr (l1 ++ l2) ((i', fr, v, R v) :: S) (by simp at hm ⊢; omega) (inv.set hi hin) (hset _ _ (fun j _ _ hji => by rw [hAr']; simp [hji]) hni.1 hni.2) hDr (hsl.trans hGr)
              (ext_trans hb hE) ⟨fun x hx => ?_, fun x hx y hy h1 h2 h3 => ?_⟩ (fun x hx h1 => ?_) (fun x hx => ?_) ?_
            · rcases List.mem_cons.1 hx with rfl | hx
              · exact hv
              · exact hmono x hx _ _ hE (hs.1 x hx)
            · rcases List.mem_cons.1 hx with rfl | hx
              · rcases List.mem_cons.1 hy with rfl | hy
                · exact absurd rfl h3
                · obtain ⟨g, e1, e2, e3⟩ := hfv h1
                  obtain ⟨g', e4, e5⟩ := hfr y hy h2
                  intro e
                  simp only at e
                  rw [e1, e4] at e
                  simp only [Value.pointer.injEq, Option.some.injEq, Addr.mk.injEq, and_true] at e
                  omega
              · rcases List.mem_cons.1 hy with rfl | hy
                · obtain ⟨g, e1, e2, e3⟩ := hfv h2
                  obtain ⟨g', e4, e5⟩ := hfr x hx h1
                  intro e
                  simp only at e
                  rw [e1, e4] at e
                  simp only [Value.pointer.injEq, Option.some.injEq, Addr.mk.injEq, and_true] at e
                  omega
                · exact hs.2 x hx y hy h1 h2 h3
            · rcases List.mem_cons.1 hx with rfl | hx
              · obtain ⟨g, e1, e2, e3⟩ := hfv h1
                exact ⟨g, e1, e3⟩
              · obtain ⟨g, h2, h3⟩ := hfr x hx h1
                exact ⟨g, h2, Nat.lt_of_lt_of_le h3 (ext_size hE)⟩
            · rcases List.mem_cons.1 hx with rfl | hx
              · exact fun w1 w2 h12 h1 => hmR _ _ _ h12 h1
              · exact hmono x hx
            · refine wpLoose_mono ?_ _ _ (loose_put hsel ho v Dr a hapD h)
              rintro a' ⟨a0, rfl, he0, hf0⟩
              obtain ⟨o2, ho2, _, _, _, hr2⟩ := hpickG a0 hf0
              obtain rfl : o2 = o' := Option.some.inj (ho2.symm.trans ho)
              exact hr2 v hC
          unfold opAt at hrun
          split at hrun <;> rename_i hwt
          · exact runsAt_opg ho hwt hrun (fun v w' hv => hstep v w' hv.1 hv.2.1 hv.2.2.1 hv.2.2.2)
          · exact skipsAt_opg ho (by simpa using hwt) (hstep undef w (ext_refl _) hrun.1 hrun.2.1 hrun.2.2)
      · -- the tail waits
        exfalso
        have hin' : i ∈ T := by simpa using hin
        refine mtail_waits hsink hchain inv (L := Dr ++ Ar) hsub ?_ hunl (fun j hj hjT hju => ?_) i hin' hi
        · intro h0
          have := congrArg List.length h0
          simp only [List.length_append, List.length_nil] at this
          omega
        · exact List.mem_append.2 ((hun j hj hjT).1 hju)



/-- **A region that draws its order, walked once, each operation by a relation, guarded or not.** -/
theorem wp_region_each {id : Nat} {l : List Oper} {Q : Exit → Act → World → Prop} {a : Act} (Pre D : List Nat) (G : List Ent3) (T A : List Nat) (hA : G.map Prod.fst = A) (hm : P.follows .mixedOrders = true) (hB : mixB l.toArray Pre D A T = true)
    (hQ : ∀ c a d v w, Q (.panic c) (Act.put a d v) w → Q (.panic c) a w)
    (h : wpPre P l.toArray (fun a0 => wpLoose P l.toArray W (fun a' => wpGz P l.toArray W (fun a'' S' => ∀ w', Ext W w' → S' w' → wpSeq P l.toArray Q T a'' w') G a' []) D a0) Pre a) :
    (Code.region id l.toArray true).wp P Q a W := by
  subst hA
  simp only [mixB, Bool.and_eq_true, decide_eq_true_eq] at hB
  obtain ⟨⟨⟨⟨⟨⟨⟨⟨⟨⟨⟨hsel, hpre⟩, hp⟩, hs⟩, hk⟩, hch⟩, hsq⟩, hinv⟩, hsz⟩, htl⟩, hcov⟩, hlen⟩ := hB
  have hself := List.all_eq_true.1 hs
  refine wp_region_any hm ?_
  suffices key : wpAny P .any l.toArray Q (Pre.length + ((D.length + (G.map Prod.fst).length) + T.length)) (Array.replicate l.toArray.size false) a { W with drawn := W.drawn + 1 } by
    rw [show Pre.length + ((D.length + (G.map Prod.fst).length) + T.length) = l.toArray.size by omega] at key
    exact key
  refine wpAny_pre (fuel := (D.length + (G.map Prod.fst).length) + T.length) hsel hQ Pre _ a hpre (wpPre_mono ?_ _ _ h)
  intro a0 h0
  refine gzcore (P := P) (ops := l.toArray) (W := W) (Q := Q) (D := D) (G := G) (T := T) (Region.noSelect_spec hsel) (pairsB_spec _ hp) hself (fun t r e => by subst e; exact hk) hch hsq
    (D.length + (G.map Prod.fst).length) _ a0 W.drew D G [] (by rw [List.length_map]) ⟨hsz, fun j oj hj hl e he hb => ?_, fun t ht hts => ?_⟩ (fun i hi hiT => ?_)
    (List.Sublist.refl _) (List.Sublist.refl _) (ext_drew (ext_refl _)) ⟨fun _ hx => (by cases hx), fun _ hx => (by cases hx)⟩ (fun _ hx => by cases hx) (fun _ hx => by cases hx) h0
  · have h1 := List.all_eq_true.1 hinv j (List.mem_range.2 (Array.getElem?_eq_some_iff.1 hj).1)
    simp only [hl, hj, Bool.not_true, Bool.false_or] at h1
    have h2 := (Array.all_eq_true'.1 h1) e he
    simpa [hb] using h2
  · have h1 := List.all_eq_true.1 htl t ht
    simp only [Bool.or_eq_true, Bool.not_eq_true', decide_eq_true_eq] at h1
    rcases h1 with h1 | h1
    · exact h1
    · omega
  · have h1 := List.all_eq_true.1 hcov i (List.mem_range.2 hi)
    simp only [Bool.or_eq_true, beq_iff_eq] at h1
    rcases h1 with h1 | h1
    · exact absurd (by simpa using h1) hiT
    · rw [h1]
      constructor
      · intro hh
        have h2 : (D ++ G.map Prod.fst).contains i = true := by simpa only [Bool.not_eq_false'] using hh
        simp only [List.contains_eq_mem, decide_eq_true_eq, List.mem_append] at h2
        exact h2
      · intro hh
        have h2 : (D ++ G.map Prod.fst).contains i = true := by
          simp only [List.contains_eq_mem, decide_eq_true_eq, List.mem_append]
          exact hh
        rw [h2]; rfl

theorem wpGz_nil {Fin : Act → (World → Prop) → Prop} {a : Act} {S : List DoneZ} (h : Fin a (doneAll S)) : wpGz P ops W Fin [] a S := h
/-- an operation that makes what a relation tells -/
theorem wpGz_step {Fin : Act → (World → Prop) → Prop} {i : Nat} {C : Value → Prop} {R : Rel} {l : List Ent3} {a : Act} {S : List DoneZ} {o : Oper} (ho : ops[i]? = some o)
    (hm : ∀ v w w', Ext w w' → R v w → R v w') (hc : ∃ v, C v) (hr : ∀ w, Ext W w → (∀ x ∈ S, Region.waitsFor .any ops i x.1 = true → x.2.2.2 w) → opAt P ops o a (fun v w' => C v ∧ R v w') w)
    (h : ∀ v, C v → wpGz P ops W Fin l (a.put o.dst v) ((i, false, v, R v) :: S)) : wpGz P ops W Fin ((i, false, C, R) :: l) a S := ⟨o, ho, hm, hc, fun w hw hx => by
    have h1 := hr w hw hx
    unfold opAt at h1 ⊢
    split at h1 <;> rename_i hc
    · rw [if_pos hc]; exact runsAt_to (fun v w' h => ⟨h.1, h.2.1, h.2.2, fun e => by cases e⟩) h1
    · rw [if_neg hc]; exact ⟨h1.1, h1.2, fun e => by cases e⟩, h⟩
/-- an operation that makes a block -/
theorem wpGz_fresh {Fin : Act → (World → Prop) → Prop} {i : Nat} {R : Rel} {l : List Ent3} {a : Act} {S : List DoneZ} {o : Oper} (ho : ops[i]? = some o)
    (hm : ∀ v w w', Ext w w' → R v w → R v w') (hr : ∀ w, Ext W w → (∀ x ∈ S, Region.waitsFor .any ops i x.1 = true → x.2.2.2 w) → opAt P ops o a (fun v w' => freshV w v w' ∧ R v w') w)
    (h : ∀ g, wpGz P ops W Fin l (a.put o.dst (.pointer (some ⟨g, 0, none⟩))) ((i, true, .pointer (some ⟨g, 0, none⟩), R (.pointer (some ⟨g, 0, none⟩))) :: S)) : wpGz P ops W Fin ((i, true, (fun v => ∃ g, v = .pointer (some ⟨g, 0, none⟩)), R) :: l) a S := ⟨o, ho, hm, ⟨_, 0, rfl⟩, fun w hw hx => by
    have h1 := hr w hw hx
    unfold opAt at h1 ⊢
    split at h1 <;> rename_i hc
    · rw [if_pos hc]; exact runsAt_to (fun v w' h => ⟨h.1, by obtain ⟨g, e, _⟩ := h.2.1; exact ⟨g, e⟩, h.2.2, fun _ => h.2.1⟩) h1
    · rw [if_neg hc]; exact ⟨by obtain ⟨g, e, _⟩ := h1.1; exact ⟨g, e⟩, h1.2, fun _ => h1.1⟩, fun v ⟨g, e⟩ => by subst e; exact h g⟩
/-- an operation of a known value -/
theorem wpGz_pure {Fin : Act → (World → Prop) → Prop} {i : Nat} {X : Value} {l : List Ent3} {a : Act} {S : List DoneZ} {o : Oper} (ho : ops[i]? = some o)
    (hr : ∀ w, Ext W w → (∀ x ∈ S, Region.waitsFor .any ops i x.1 = true → x.2.2.2 w) → opAt P ops o a (fun v _ => v = X) w)
    (h : wpGz P ops W Fin l (a.put o.dst X) ((i, false, X, fun _ => True) :: S)) : wpGz P ops W Fin ((i, false, (fun v => v = X), fun _ _ => True) :: l) a S :=
  ⟨o, ho, fun _ _ _ _ _ => trivial, ⟨X, rfl⟩, fun w hw hx => by
    have h1 := hr w hw hx
    unfold opAt at h1 ⊢
    split at h1 <;> rename_i hc
    · rw [if_pos hc]; exact runsAt_to (fun v w' h => ⟨h.1, h.2, trivial, fun e => by cases e⟩) h1
    · rw [if_neg hc]; exact ⟨h1, trivial, fun e => by cases e⟩, fun v hv => by subst hv; exact h⟩

end
end Go.Proofs.Ytiabmdboacpmcaa
/- As Gz; but of old memory some may turn: the worlds go on by a relation of one's own. -/
namespace Go.Proofs.Ytiabmdboacpmcaa
open Go Go.RowKit Go.Sort

/-- how worlds may go on -/
structure LeW (Le : World → World → Prop) : Prop where
  ext : ∀ {w w'}, Ext w w' → Le w w'
  trans : ∀ {a b c}, Le a b → Le b c → Le a c
  size : ∀ {w w'}, Le w w' → w.heap.size ≤ w'.heap.size
section
variable {P : Program} {ops : Array Oper} {W : World} {Le : World → World → Prop}
/-- an operation that runs, if it is asked for -/
def opAtL (P : Program) (Le : World → World → Prop) (ops : Array Oper) (o : Oper) (a : Act) (R : Value → World → Prop) (w : World) : Prop :=
  if Region.wanted o (yielded ops a.tmps) = true then runsAt P o a (fun v w' => Le w w' ∧ R v w') w else R undef w
theorem opAtL_same {o : Oper} {a a' : Act} {R : Value → World → Prop} {w : World} (he : execOp a'.eval o = execOp a.eval o) (hw : Region.wanted o (yielded ops a'.tmps) = Region.wanted o (yielded ops a.tmps)) (h : opAtL P Le ops o a R w) : opAtL P Le ops o a' R w := by
  unfold opAtL at *
  rw [hw]
  split at h <;> rename_i hc
  · rw [if_pos hc]; exact runsAt_same he h
  · rw [if_neg hc]; exact h

def wpGl (P : Program) (Le : World → World → Prop) (ops : Array Oper) (W : World) (Fin : Act → (World → Prop) → Prop) : List Ent3 → Act → List DoneZ → Prop
  | [], a, S => Fin a (doneAll S)
  | (i, fr, C, R) :: l, a, S => ∃ o, ops[i]? = some o ∧ (∀ v w w', Le w w' → R v w → R v w') ∧ (∃ v, C v) ∧
      (∀ w, Le W w → (∀ x ∈ S, Region.waitsFor .any ops i x.1 = true → x.2.2.2 w) → opAtL P Le ops o a (fun v w' => C v ∧ R v w' ∧ (fr = true → freshV w v w')) w) ∧
      ∀ v, C v → wpGl P Le ops W Fin l (a.put o.dst v) ((i, fr, v, R v) :: S)

theorem wpGl_mem {Fin : Act → (World → Prop) → Prop} (hF : ∀ a S S', (∀ w, S' w → S w) → Fin a S → Fin a S') : ∀ (l : List Ent3) (a : Act) (S S' : List DoneZ), (∀ x ∈ S, x ∈ S') → wpGl P Le ops W Fin l a S → wpGl P Le ops W Fin l a S'
  | [], a, S, S', hS, h => hF a _ _ (fun _ hw => doneAll_sub hS hw) h
  | (i, fr, C, R) :: l, a, S, S', hS, ⟨o, ho, hm, hc, hr, h⟩ => ⟨o, ho, hm, hc, fun w hw hx => hr w hw (fun x h1 h2 => hx x (hS x h1) h2), fun v h1 => wpGl_mem hF l _ _ _ (fun x hx => by
      rcases List.mem_cons.1 hx with rfl | hx
      · exact List.mem_cons_self ..
      · exact List.mem_cons_of_mem _ (hS x hx)) (h v h1)⟩

theorem gl_pick (hsel : ∀ (j : Nat) (o : Oper) cs b, ops[j]? = some o → o.op ≠ .select cs b) {Fin : Act → (World → Prop) → Prop} (hF : ∀ a S S', (∀ w, S' w → S w) → Fin a S → Fin a S') {i : Nat} {fr : Bool} {C : Value → Prop} {R : Rel} {l2 : List Ent3} :
    ∀ (l1 : List Ent3) (a : Act) (S : List DoneZ), (∀ k ∈ l1, apB ops k.1 i = true ∧ Region.waitsFor .any ops i k.1 = false) → wpGl P Le ops W Fin (l1 ++ (i, fr, C, R) :: l2) a S →
    ∃ o, ops[i]? = some o ∧ (∀ v w w', Le w w' → R v w → R v w') ∧ (∃ v, C v) ∧
      (∀ w, Le W w → (∀ x ∈ S, Region.waitsFor .any ops i x.1 = true → x.2.2.2 w) → opAtL P Le ops o a (fun v w' => C v ∧ R v w' ∧ (fr = true → freshV w v w')) w) ∧
      ∀ v, C v → wpGl P Le ops W Fin (l1 ++ l2) (a.put o.dst v) ((i, fr, v, R v) :: S)
  | [], _, _, _, h => h
  | (k, fk, Ck, Rk) :: l1, a, S, hap, ⟨ok, hk, hmk, hck, hrk, hr⟩ => by
    have ihv := fun (v : Value) (h1 : Ck v) => gl_pick hsel hF l1 _ _ (fun x hx => hap x (List.mem_cons_of_mem _ hx)) (hr v h1)
    obtain ⟨v0, hv0⟩ := hck
    obtain ⟨o, hi, hm, hc, hrun, _⟩ := ihv v0 hv0
    have hapk := hap (k, fk, Ck, Rk) (List.mem_cons_self ..)
    obtain ⟨h1, h2, h3⟩ := Oper.apart_spec (apB_spec hk hi hapk.1)
    have he : ∀ u, execOp (a.put ok.dst u).eval o = execOp a.eval o := fun u => execOp_put o (fun cs b => hsel i o cs b hi) a _ _ h1
    refine ⟨o, hi, hm, hc, fun w hw hx => ?_, fun v hv => ⟨ok, hk, hmk, ⟨v0, hv0⟩, fun w hw hx => ?_, fun vk hvk => ?_⟩⟩
    · refine opAtL_same (he v0).symm (wanted_put o a _ _ h1).symm (hrun w hw (fun x hx1 hx2 => ?_))
      rcases List.mem_cons.1 hx1 with rfl | hx1
      · rw [hapk.2] at hx2; cases hx2
      · exact hx x hx1 hx2
    · exact opAtL_same (execOp_put ok (fun cs b => hsel k ok cs b hk) a _ _ h3) (wanted_put ok a _ _ h3) (hrk w hw (fun x hx1 hx2 => hx x (List.mem_cons_of_mem _ hx1) hx2))
    · obtain ⟨o', hi', _, _, _, hr'⟩ := ihv vk hvk
      obtain rfl : o' = o := Option.some.inj (hi'.symm.trans hi)
      have := hr' v hv
      rw [Act.put_comm a vk v h2] at this
      refine wpGl_mem hF _ _ _ _ (fun x hx => ?_) this
      rcases List.mem_cons.1 hx with rfl | hx
      · exact List.mem_cons_of_mem _ (List.mem_cons_self ..)
      · rcases List.mem_cons.1 hx with rfl | hx
        · exact List.mem_cons_self ..
        · exact List.mem_cons_of_mem _ (List.mem_cons_of_mem _ hx)

theorem glcore (LW : LeW Le) {Q : Exit → Act → World → Prop} {T : List Nat} {G : List Ent3} (hsel : ∀ (j : Nat) (o : Oper) cs b, ops[j]? = some o → o.op ≠ .select cs b)
    (hD : List.Pairwise (Pr ops) (G.map Prod.fst)) (hS : ∀ i ∈ G.map Prod.fst, mselfB ops T i = true) (hsink : ∀ t l, T = t :: l → sinkL ops t (G.map Prod.fst) = true) (hchain : chainL ops T = true) (hseq : seqL ops T (mcanon ops T) = true) :
    ∀ (m : Nat) (listed : Array Bool) (a : Act) (w : World) (Gr : List Ent3) (S : List DoneZ), Gr.length = m → MInv ops T listed →
      (∀ i, i < ops.size → i ∉ T → (listed.getD i true = false ↔ i ∈ Gr.map Prod.fst)) → Gr.Sublist G → Le W w → doneAll S w → (∀ x ∈ S, x.2.1 = true → ∃ g, x.2.2.1 = .pointer (some ⟨g, 0, none⟩) ∧ g < w.heap.size) →
      (∀ x ∈ S, ∀ w w', Le w w' → x.2.2.2 w → x.2.2.2 w') →
      wpGl P Le ops W (fun a'' S' => ∀ w', Le W w' → S' w' → wpSeq P ops Q T a'' w') Gr a S →
      wpAny P .any ops Q (m + T.length) listed a w := by
  have hF : ∀ (a : Act) (S S' : World → Prop), (∀ w, S' w → S w) → (∀ w', Le W w' → S w' → wpSeq P ops Q T a w') → (∀ w', Le W w' → S' w' → wpSeq P ops Q T a w') :=
    fun a S S' h h1 w' hw hs => h1 w' hw (h _ hs)
  intro m
  induction m with
  | zero =>
    intro listed a w Gr S hm inv hun hGr hb hs hfr hmono h
    obtain rfl : Gr = [] := List.eq_nil_of_length_eq_zero (by omega)
    have h' : wpSeq P ops Q T a w := h w hb hs
    have hc : listed = mcanon ops T := by
      apply Array.ext_getElem?
      intro i
      by_cases hi : i < ops.size
      · have hl : i < listed.size := by rw [inv.size]; exact hi
        by_cases hin : i ∈ T
        · have h1 := inv.tail i hin hi
          simp [mcanon, hi, hin, hl] at h1 ⊢
          exact h1
        · have h1 := hun i hi hin
          simp only [List.map_nil, List.not_mem_nil, iff_false, Bool.not_eq_false] at h1
          simp [mcanon, hi, hin, hl] at h1 ⊢
          exact h1
      · rw [Array.getElem?_eq_none (by rw [inv.size]; omega), Array.getElem?_eq_none (by simp [mcanon]; omega)]
    rw [Nat.zero_add]
    exact wpAny_of_seqL T listed a w (by rw [hc]; exact hseq) h'
  | succ m ih =>
    intro listed a w Gr S hm inv hun hGr hb hs hfr hmono h
    rw [show m + 1 + T.length = (m + T.length) + 1 by omega]
    obtain ⟨Ar, hAr⟩ : ∃ Ar, Gr.map Prod.fst = Ar := ⟨_, rfl⟩
    obtain ⟨A, hA⟩ : ∃ A, G.map Prod.fst = A := ⟨_, rfl⟩
    have hlenA : Ar.length = Gr.length := by rw [← hAr, List.length_map]
    rw [hA] at hD hS hsink
    rw [hAr] at hun
    have hArs : Ar.Sublist A := by rw [← hAr, ← hA]; exact hGr.map _
    have hsub : Ar.Sublist A := hArs
    have hpw : List.Pairwise (Pr ops) (Ar) := hD.sublist hsub
    have hmem : ∀ i ∈ Ar, mselfB ops T i = true := fun i hi => hS i (hsub.subset hi)
    have hlt : ∀ i ∈ Ar, i < ops.size ∧ i ∉ T := fun i hi => by
      have := hmem i hi
      simp only [mselfB, Bool.and_eq_true, decide_eq_true_eq] at this
      exact this.1.2
    have hunl : ∀ i ∈ Ar, listed.getD i true = false := fun i hi => (hun i (hlt i hi).1 (hlt i hi).2).2 hi
    -- what is ready does not wait for what has not come up
    have hready : ∀ i ∈ Region.ready .any ops listed, ∀ k, listed.getD k true = false → Region.waitsFor .any ops i k = false := fun i hi k hk => by
      cases hw : Region.waitsFor .any ops i k with
      | false => rfl
      | true =>
        obtain ⟨oj, hoj, e, he, hbd, hon⟩ := Region.waitsFor_spec hw
        obtain ⟨_, o, ho, hall⟩ := mem_ready.1 hi
        obtain rfl : o = oj := Option.some.inj (ho.symm.trans hoj)
        have := hall e he hbd
        rw [hon, getD_both hk] at this
        cases this
    constructor
    · -- the first of what is left is ready
      intro hnil
      exfalso
      obtain ⟨x, xs, hx⟩ : ∃ x xs, Ar = x :: xs := by
        cases hl : Ar with
        | nil => have := congrArg List.length hl; simp only [List.length_nil] at this; omega
        | cons x xs => exact ⟨x, xs, rfl⟩
      have hxm : x ∈ Ar := by rw [hx]; exact List.mem_cons_self ..
      have hsx := hmem x hxm
      have hself := hsx
      simp only [mselfB, Bool.and_eq_true, decide_eq_true_eq, Bool.not_eq_true'] at hsx
      obtain ⟨⟨hs1, hs2⟩, hs3⟩ := hsx
      cases ho : ops[x]? with
      | none => rw [ho] at hs3; cases hs3
      | some o =>
        rw [ho] at hs3
        have : x ∈ Region.ready .any ops listed := mem_ready.2 ⟨hunl x hxm, o, ho, fun e he hbd => by
          have h1 := (Array.all_eq_true'.1 hs3) e he
          simp only [hbd, Bool.not_true, Bool.false_or, decide_eq_true_eq] at h1
          cases hl : listed.getD e.on false with
          | true => rfl
          | false =>
            have hl' : listed.getD e.on true = false := getD_in (by rw [inv.size]; exact h1.1) hl
            have hin := (hun e.on h1.1 h1.2).1 hl'
            have hin' : e.on ∈ x :: xs := by rw [← hx]; exact hin
            have hwt := waits_of ho he hbd rfl
            rcases List.mem_cons.1 hin' with hh | hh
            · rw [hh, hs1] at hwt; cases hwt
            · rw [hx] at hpw
              have := (List.pairwise_cons.1 hpw).1 _ hh
              rw [this.2.1] at hwt; cases hwt⟩
        rw [hnil] at this
        cases this
    · intro i hi
      have hiu := (mem_ready.1 hi).1
      obtain ⟨_, o, ho, _⟩ := mem_ready.1 hi
      have hisz : i < ops.size := (Array.getElem?_eq_some_iff.1 ho).1
      by_cases hin : i ∉ T
      · have hset : ∀ (Y : List Nat), (∀ j, j < ops.size → j ∉ T → j ≠ i → (j ∈ Ar ↔ j ∈ Y)) → i ∉ Y → ∀ j, j < ops.size → j ∉ T → ((listed.setIfInBounds i true).getD j true = false ↔ j ∈ Y) := fun Y hXY hY j hj hjT => by
          by_cases hji : i = j
          · subst hji
            have h1 : (listed.setIfInBounds i true).getD i true = true := by
              have : i < listed.size := by rw [inv.size]; exact hisz
              simp [this]
            rw [h1]
            simp [hY]
          · rw [getD_set_ne true hji, hun j hj hjT, hXY j hj hjT (fun h => hji h.symm)]
        have hmA := (hun i hisz hin).1 hiu
        · rw [← hAr] at hmA
          obtain ⟨⟨i', fr, C, R⟩, hmG, hii⟩ := List.mem_map.1 hmA
          simp only at hii
          subst hii
          obtain ⟨l1, l2, rfl⟩ := List.append_of_mem hmG
          have hAr' : Ar = l1.map Prod.fst ++ i' :: l2.map Prod.fst := by rw [← hAr]; simp
          have hapG : ∀ k ∈ l1, apB ops k.1 i' = true ∧ Region.waitsFor .any ops i' k.1 = false := fun k hk => by
            have hkm : k.1 ∈ l1.map Prod.fst := List.mem_map.2 ⟨k, hk, rfl⟩
            have hw := hready i' hi k.1 (hunl k.1 (by rw [hAr']; exact List.mem_append_left _ hkm))
            have h3 := hpw
            rw [hAr'] at h3
            have h1 := (List.pairwise_append.1 h3).2.2 k.1 hkm i' (List.mem_cons_self ..)
            rcases h1.1 with h2 | h2
            · rw [hw] at h2; cases h2
            · exact ⟨h2, hw⟩
          have hpickG := fun (a' : Act) (hh : wpGl P Le ops W (fun a'' S' => ∀ w', Le W w' → S' w' → wpSeq P ops Q T a'' w') (l1 ++ (i', fr, C, R) :: l2) a' S) => gl_pick hsel hF l1 a' S hapG hh
          obtain ⟨o', ho', hmR, hcR, hrun1, hrest1⟩ := hpickG a h
          obtain rfl : o' = o := Option.some.inj (ho'.symm.trans ho)
          have hrun := hrun1 w hb (fun x hx _ => hs.1 x hx)
          have hsl : (l1 ++ l2).Sublist (l1 ++ (i', fr, C, R) :: l2) := (List.Sublist.refl l1).append (List.sublist_cons_self ..)
          have hni : i' ∉ (l1 ++ l2).map Prod.fst := by
            have h3 := hpw
            rw [hAr'] at h3
            have h1 := List.pairwise_append.1 h3
            intro hm'
            rw [List.map_append] at hm'
            rcases List.mem_append.1 hm' with hm' | hm'
            · exact (h1.2.2 i' hm' i' (List.mem_cons_self ..)).2.2 rfl
            · exact ((List.pairwise_cons.1 h1.2.1).1 i' hm').2.2 rfl
          have hstep : ∀ v w', Le w w' → C v → R v w' → (fr = true → freshV w v w') → wpAny P .any ops Q (m + T.length) (listed.setIfInBounds i' true) (a.put o'.dst v) w' := fun v w' hE hC hv hfv => by
            refine ih _ _ w' (l1 ++ l2) ((i', fr, v, R v) :: S) (by simp at hm ⊢; omega) (inv.set hi hin) (hset _ (fun j _ _ hji => by rw [hAr']; simp [hji]) hni) (hsl.trans hGr)
              (LW.trans hb hE) ⟨fun x hx => ?_, fun x hx y hy h1 h2 h3 => ?_⟩ (fun x hx h1 => ?_) (fun x hx => ?_) ?_
            · rcases List.mem_cons.1 hx with rfl | hx
              · exact hv
              · exact hmono x hx _ _ hE (hs.1 x hx)
            · rcases List.mem_cons.1 hx with rfl | hx
              · rcases List.mem_cons.1 hy with rfl | hy
                · exact absurd rfl h3
                · obtain ⟨g, e1, e2, e3⟩ := hfv h1
                  obtain ⟨g', e4, e5⟩ := hfr y hy h2
                  intro e
                  simp only at e
                  rw [e1, e4] at e
                  simp only [Value.pointer.injEq, Option.some.injEq, Addr.mk.injEq, and_true] at e
                  omega
              · rcases List.mem_cons.1 hy with rfl | hy
                · obtain ⟨g, e1, e2, e3⟩ := hfv h2
                  obtain ⟨g', e4, e5⟩ := hfr x hx h1
                  intro e
                  simp only at e
                  rw [e1, e4] at e
                  simp only [Value.pointer.injEq, Option.some.injEq, Addr.mk.injEq, and_true] at e
                  omega
                · exact hs.2 x hx y hy h1 h2 h3
            · rcases List.mem_cons.1 hx with rfl | hx
              · obtain ⟨g, e1, e2, e3⟩ := hfv h1
                exact ⟨g, e1, e3⟩
              · obtain ⟨g, h2, h3⟩ := hfr x hx h1
                exact ⟨g, h2, Nat.lt_of_lt_of_le h3 (LW.size hE)⟩
            · rcases List.mem_cons.1 hx with rfl | hx
              · exact fun w1 w2 h12 h1 => hmR _ _ _ h12 h1
              · exact hmono x hx
            · exact hrest1 v hC
          unfold opAtL at hrun
          split at hrun <;> rename_i hwt
          · exact runsAt_opg ho hwt hrun (fun v w' hv => hstep v w' hv.1 hv.2.1 hv.2.2.1 hv.2.2.2)
          · exact skipsAt_opg ho (by simpa using hwt) (hstep undef w (LW.ext (ext_refl _)) hrun.1 hrun.2.1 hrun.2.2)
      · -- the tail waits
        exfalso
        have hin' : i ∈ T := by simpa using hin
        refine mtail_waits hsink hchain inv (L := Ar) hsub ?_ hunl (fun j hj hjT hju => ?_) i hin' hi
        · intro h0
          have := congrArg List.length h0
          simp only [List.length_nil] at this
          omega
        · exact (hun j hj hjT).1 hju



/-- **A region that draws its order, walked once, each operation by a relation, guarded or not.** -/
theorem wp_region_line (LW : LeW Le) {id : Nat} {l : List Oper} {Q : Exit → Act → World → Prop} {a : Act} (Pre : List Nat) (G : List Ent3) (T A : List Nat) (hA : G.map Prod.fst = A) (hm : P.follows .mixedOrders = true) (hB : mixB l.toArray Pre [] A T = true)
    (hQ : ∀ c a d v w, Q (.panic c) (Act.put a d v) w → Q (.panic c) a w)
    (h : wpPre P l.toArray (fun a0 => wpGl P Le l.toArray W (fun a'' S' => ∀ w', Le W w' → S' w' → wpSeq P l.toArray Q T a'' w') G a0 []) Pre a) :
    (Code.region id l.toArray true).wp P Q a W := by
  subst hA
  simp only [mixB, Bool.and_eq_true, decide_eq_true_eq] at hB
  obtain ⟨⟨⟨⟨⟨⟨⟨⟨⟨⟨⟨hsel, hpre⟩, hp⟩, hs⟩, hk⟩, hch⟩, hsq⟩, hinv⟩, hsz⟩, htl⟩, hcov⟩, hlen⟩ := hB
  simp only [List.nil_append, List.length_nil, Nat.zero_add] at hp hs hk hcov hlen
  have hself := List.all_eq_true.1 hs
  refine wp_region_any hm ?_
  suffices key : wpAny P .any l.toArray Q (Pre.length + ((G.map Prod.fst).length + T.length)) (Array.replicate l.toArray.size false) a { W with drawn := W.drawn + 1 } by
    rw [show Pre.length + ((G.map Prod.fst).length + T.length) = l.toArray.size by omega] at key
    exact key
  refine wpAny_pre (fuel := (G.map Prod.fst).length + T.length) hsel hQ Pre _ a hpre (wpPre_mono ?_ _ _ h)
  intro a0 h0
  refine glcore (P := P) (ops := l.toArray) (W := W) LW (Q := Q) (G := G) (T := T) (Region.noSelect_spec hsel) (pairsB_spec _ hp) hself (fun t r e => by subst e; exact hk) hch hsq
    (G.map Prod.fst).length _ a0 W.drew G [] (by rw [List.length_map]) ⟨hsz, fun j oj hj hl e he hb => ?_, fun t ht hts => ?_⟩ (fun i hi hiT => ?_)
    (List.Sublist.refl _) (LW.ext (ext_drew (ext_refl _))) ⟨fun _ hx => (by cases hx), fun _ hx => (by cases hx)⟩ (fun _ hx => by cases hx) (fun _ hx => by cases hx) h0
  · have h1 := List.all_eq_true.1 hinv j (List.mem_range.2 (Array.getElem?_eq_some_iff.1 hj).1)
    simp only [hl, hj, Bool.not_true, Bool.false_or] at h1
    have h2 := (Array.all_eq_true'.1 h1) e he
    simpa [hb] using h2
  · have h1 := List.all_eq_true.1 htl t ht
    simp only [Bool.or_eq_true, Bool.not_eq_true', decide_eq_true_eq] at h1
    rcases h1 with h1 | h1
    · exact h1
    · omega
  · have h1 := List.all_eq_true.1 hcov i (List.mem_range.2 hi)
    simp only [Bool.or_eq_true, beq_iff_eq] at h1
    rcases h1 with h1 | h1
    · exact absurd (by simpa using h1) hiT
    · rw [h1]
      constructor
      · intro hh
        have h2 : (G.map Prod.fst).contains i = true := by simpa only [Bool.not_eq_false'] using hh
        simp only [List.contains_eq_mem, decide_eq_true_eq] at h2
        exact h2
      · intro hh
        have h2 : (G.map Prod.fst).contains i = true := by
          simp only [List.contains_eq_mem, decide_eq_true_eq]
          exact hh
        rw [h2]; rfl

theorem wpGl_nil {Fin : Act → (World → Prop) → Prop} {a : Act} {S : List DoneZ} (h : Fin a (doneAll S)) : wpGl P Le ops W Fin [] a S := h
/-- an operation that makes what a relation tells -/
theorem wpGl_step {Fin : Act → (World → Prop) → Prop} {i : Nat} {C : Value → Prop} {R : Rel} {l : List Ent3} {a : Act} {S : List DoneZ} {o : Oper} (ho : ops[i]? = some o)
    (hm : ∀ v w w', Le w w' → R v w → R v w') (hc : ∃ v, C v) (hr : ∀ w, Le W w → (∀ x ∈ S, Region.waitsFor .any ops i x.1 = true → x.2.2.2 w) → opAtL P Le ops o a (fun v w' => C v ∧ R v w') w)
    (h : ∀ v, C v → wpGl P Le ops W Fin l (a.put o.dst v) ((i, false, v, R v) :: S)) : wpGl P Le ops W Fin ((i, false, C, R) :: l) a S := ⟨o, ho, hm, hc, fun w hw hx => by
    have h1 := hr w hw hx
    unfold opAtL at h1 ⊢
    split at h1 <;> rename_i hc
    · rw [if_pos hc]; exact runsAt_to (fun v w' h => ⟨h.1, h.2.1, h.2.2, fun e => by cases e⟩) h1
    · rw [if_neg hc]; exact ⟨h1.1, h1.2, fun e => by cases e⟩, h⟩
/-- an operation that makes a block -/
theorem wpGl_fresh {Fin : Act → (World → Prop) → Prop} {i : Nat} {R : Rel} {l : List Ent3} {a : Act} {S : List DoneZ} {o : Oper} (ho : ops[i]? = some o)
    (hm : ∀ v w w', Le w w' → R v w → R v w') (hr : ∀ w, Le W w → (∀ x ∈ S, Region.waitsFor .any ops i x.1 = true → x.2.2.2 w) → opAtL P Le ops o a (fun v w' => freshV w v w' ∧ R v w') w)
    (h : ∀ g, wpGl P Le ops W Fin l (a.put o.dst (.pointer (some ⟨g, 0, none⟩))) ((i, true, .pointer (some ⟨g, 0, none⟩), R (.pointer (some ⟨g, 0, none⟩))) :: S)) : wpGl P Le ops W Fin ((i, true, (fun v => ∃ g, v = .pointer (some ⟨g, 0, none⟩)), R) :: l) a S := ⟨o, ho, hm, ⟨_, 0, rfl⟩, fun w hw hx => by
    have h1 := hr w hw hx
    unfold opAtL at h1 ⊢
    split at h1 <;> rename_i hc
    · rw [if_pos hc]; exact runsAt_to (fun v w' h => ⟨h.1, by obtain ⟨g, e, _⟩ := h.2.1; exact ⟨g, e⟩, h.2.2, fun _ => h.2.1⟩) h1
    · rw [if_neg hc]; exact ⟨by obtain ⟨g, e, _⟩ := h1.1; exact ⟨g, e⟩, h1.2, fun _ => h1.1⟩, fun v ⟨g, e⟩ => by subst e; exact h g⟩
/-- an operation of a known value -/
theorem wpGl_pure {Fin : Act → (World → Prop) → Prop} {i : Nat} {X : Value} {l : List Ent3} {a : Act} {S : List DoneZ} {o : Oper} (ho : ops[i]? = some o)
    (hr : ∀ w, Le W w → (∀ x ∈ S, Region.waitsFor .any ops i x.1 = true → x.2.2.2 w) → opAtL P Le ops o a (fun v _ => v = X) w)
    (h : wpGl P Le ops W Fin l (a.put o.dst X) ((i, false, X, fun _ => True) :: S)) : wpGl P Le ops W Fin ((i, false, (fun v => v = X), fun _ _ => True) :: l) a S :=
  ⟨o, ho, fun _ _ _ _ _ => trivial, ⟨X, rfl⟩, fun w hw hx => by
    have h1 := hr w hw hx
    unfold opAtL at h1 ⊢
    split at h1 <;> rename_i hc
    · rw [if_pos hc]; exact runsAt_to (fun v w' h => ⟨h.1, h.2, trivial, fun e => by cases e⟩) h1
    · rw [if_neg hc]; exact ⟨h1, trivial, fun e => by cases e⟩, fun v hv => by subst hv; exact h⟩

/-- an operation of a known value, which is not remembered; the frame is reckoned out at once -/
theorem wpGl_pure1 {Fin : Act → (World → Prop) → Prop} (hF : ∀ a S S', (∀ w, S' w → S w) → Fin a S → Fin a S') {i : Nat} {X : Value} {l : List Ent3} {a : Act} {S : List DoneZ} {o : Oper} (ho : ops[i]? = some o)
    (hr : ∀ w, Le W w → (∀ x ∈ S, Region.waitsFor .any ops i x.1 = true → x.2.2.2 w) → opAtL P Le ops o a (fun v _ => v = X) w)
    (h : ∀ K : Act → Prop, (∀ a, wpGl P Le ops W Fin l a S → K a) → K (a.put o.dst X)) : wpGl P Le ops W Fin ((i, false, (fun v => v = X), fun _ _ => True) :: l) a S :=
  wpGl_pure ho hr (wpGl_mem hF l _ _ _ (fun _ hx => List.mem_cons_of_mem _ hx) (h _ (fun _ h => h)))
theorem wpGl_step1 {Fin : Act → (World → Prop) → Prop} {i : Nat} {C : Value → Prop} {R : Rel} {l : List Ent3} {a : Act} {S : List DoneZ} {o : Oper} (ho : ops[i]? = some o)
    (hm : ∀ v w w', Le w w' → R v w → R v w') (hc : ∃ v, C v) (hr : ∀ w, Le W w → (∀ x ∈ S, Region.waitsFor .any ops i x.1 = true → x.2.2.2 w) → opAtL P Le ops o a (fun v w' => C v ∧ R v w') w)
    (h : ∀ v, C v → ∀ K : Act → Prop, (∀ a, wpGl P Le ops W Fin l a ((i, false, v, R v) :: S) → K a) → K (a.put o.dst v)) : wpGl P Le ops W Fin ((i, false, C, R) :: l) a S :=
  wpGl_step ho hm hc hr (fun v hv => h v hv _ (fun _ h => h))
/-- what is asked of a region whose first event is forced -/
def lineB (ops : Array Oper) (Pre : List Nat) (i0 : Nat) (A T : List Nat) : Bool :=
  Region.noSelect ops && preB ops Pre (Array.replicate ops.size false) && decide (Region.ready .any ops (listedOf Pre (Array.replicate ops.size false)) = [i0]) && pairsB ops A && A.all (mselfB ops T) && (match T with | [] => true | t :: _ => sinkL ops t A) && chainL ops T && seqL ops T (mcanon ops T) &&
  invB ops (listedOf (Pre ++ [i0]) (Array.replicate ops.size false)) && decide ((listedOf (Pre ++ [i0]) (Array.replicate ops.size false)).size = ops.size) && T.all (fun t => !(listedOf (Pre ++ [i0]) (Array.replicate ops.size false)).getD t true || decide (ops.size ≤ t)) &&
  (List.range ops.size).all (fun i => T.contains i || ((listedOf (Pre ++ [i0]) (Array.replicate ops.size false)).getD i true == !(A.contains i))) && decide (Pre.length + 1 + A.length + T.length = ops.size)
theorem listedOf_snoc : ∀ (l : List Nat) (i : Nat) (L : Array Bool), listedOf (l ++ [i]) L = (listedOf l L).setIfInBounds i true
  | [], _, _ => rfl
  | _ :: l, i, _L => listedOf_snoc l i _
/-- **A region whose first event is forced; behind it, worlds go on by a relation of one's own.** -/
theorem wp_region_line1 (LW : LeW Le) {id : Nat} {l : List Oper} {Q : Exit → Act → World → Prop} {a : Act} (Pre : List Nat) (i0 : Nat) (G : List Ent3) (T A : List Nat) (hA : G.map Prod.fst = A) (hm : P.follows .mixedOrders = true) (hB : lineB l.toArray Pre i0 A T = true)
    (hQ : ∀ c a d v w, Q (.panic c) (Act.put a d v) w → Q (.panic c) a w)
    (h : wpPre P l.toArray (fun a0 => ∃ o, l.toArray[i0]? = some o ∧ Region.wanted o (yielded l.toArray a0.tmps) = true ∧ ∀ W1, Ext W W1 → runsAt P o a0 (fun v w1 => ∀ K : Act → Prop, (∀ a, wpGl P Le l.toArray w1 (fun a'' S' => ∀ w', Le w1 w' → S' w' → wpSeq P l.toArray Q T a'' w') G a [] → K a) → K (a0.put o.dst v)) W1) Pre a) :
    (Code.region id l.toArray true).wp P Q a W := by
  subst hA
  simp only [lineB, Bool.and_eq_true, decide_eq_true_eq] at hB
  obtain ⟨⟨⟨⟨⟨⟨⟨⟨⟨⟨⟨⟨hsel, hpre⟩, hrdy⟩, hp⟩, hs⟩, hk⟩, hch⟩, hsq⟩, hinv⟩, hsz⟩, htl⟩, hcov⟩, hlen⟩ := hB
  have hself := List.all_eq_true.1 hs
  refine wp_region_any hm ?_
  suffices key : wpAny P .any l.toArray Q (Pre.length + (((G.map Prod.fst).length + T.length) + 1)) (Array.replicate l.toArray.size false) a { W with drawn := W.drawn + 1 } by
    rw [show Pre.length + (((G.map Prod.fst).length + T.length) + 1) = l.toArray.size by omega] at key
    exact key
  refine wpAny_pre (fuel := ((G.map Prod.fst).length + T.length) + 1) hsel hQ Pre _ a hpre (wpPre_mono ?_ _ _ h)
  rintro a0 ⟨o, ho, hw, hrun⟩
  have hrun1 := hrun W.drew (ext_drew (ext_refl _))
  constructor
  · intro hnil
    rw [hrdy] at hnil
    cases hnil
  · intro i hi
    rw [hrdy] at hi
    rw [List.mem_singleton.1 hi]
    refine runsAt_opg ho hw hrun1 (fun v w' hv => ?_)
    rw [← listedOf_snoc]
    refine glcore (P := P) (ops := l.toArray) (W := w') LW (Q := Q) (G := G) (T := T) (Region.noSelect_spec hsel) (pairsB_spec _ hp) hself (fun t r e => by subst e; exact hk) hch hsq
      (G.map Prod.fst).length _ _ w' G [] (by rw [List.length_map]) ⟨hsz, fun j oj hj hl e he hb => ?_, fun t ht hts => ?_⟩ (fun i hi hiT => ?_)
      (List.Sublist.refl _) (LW.ext (ext_refl _)) ⟨fun _ hx => (by cases hx), fun _ hx => (by cases hx)⟩ (fun _ hx => by cases hx) (fun _ hx => by cases hx) (hv _ (fun _ h => h))
    · have h1 := List.all_eq_true.1 hinv j (List.mem_range.2 (Array.getElem?_eq_some_iff.1 hj).1)
      simp only [hl, hj, Bool.not_true, Bool.false_or] at h1
      have h2 := (Array.all_eq_true'.1 h1) e he
      simpa [hb] using h2
    · have h1 := List.all_eq_true.1 htl t ht
      simp only [Bool.or_eq_true, Bool.not_eq_true', decide_eq_true_eq] at h1
      rcases h1 with h1 | h1
      · exact h1
      · omega
    · have h1 := List.all_eq_true.1 hcov i (List.mem_range.2 hi)
      simp only [Bool.or_eq_true, beq_iff_eq] at h1
      rcases h1 with h1 | h1
      · exact absurd (by simpa using h1) hiT
      · rw [h1]
        constructor
        · intro hh
          have h2 : (G.map Prod.fst).contains i = true := by simpa only [Bool.not_eq_false'] using hh
          simp only [List.contains_eq_mem, decide_eq_true_eq] at h2
          exact h2
        · intro hh
          have h2 : (G.map Prod.fst).contains i = true := by
            simp only [List.contains_eq_mem, decide_eq_true_eq]
            exact hh
          rw [h2]; rfl
end
end Go.Proofs.Ytiabmdboacpmcaa
