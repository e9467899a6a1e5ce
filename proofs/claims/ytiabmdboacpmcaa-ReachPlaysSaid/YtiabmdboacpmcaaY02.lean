/- Texts joined: Free Mix Gen. -/
import Derived.Lib.QuietBelow
import Derived.StillTail
import Derived.KernelRfl
/- A region that draws its order, walked once: operations whose value does not hang on the order (they may make memory), operations that make one new block, and a tail in forced order. -/
namespace Go.Proofs.Ytiabmdboacpmcaa
open Go Go.RowKit Go.Sort

/-- Of what was there nothing has turned; blocks may have been made. (A plain definition: the walk's simp does not look into it.) -/
def Ext (w w' : World) : Prop := RowKit.Below w.heap.size w w'
theorem ext_refl (w : World) : Ext w w := Below.refl _ _
theorem ext_trans {a b c : World} (h : Ext a b) (k : Ext b c) : Ext a c := Below.trans h (Below.mono k h.size)
theorem ext_alloc {w x : World} (h : Ext w x) (o : Obj) : Ext w (x.alloc o) := Below.alloc h h.size o
theorem ext_drew {w x : World} (h : Ext w x) : Ext w x.drew := Below.drew h
theorem ext_set {w x : World} (h : Ext w x) {p : Addr} (hp : w.heap.size ≤ p.block) (u : Value) : Ext w (x.setCell p u) := Below.setCell h hp u
theorem ext_grow {w x : World} (h : Ext w x) (d : Nat) (os : Array Obj) : Ext w (grow (redrawn x d) os) := ext_trans h (below_regrown x d os)
theorem ext_size {w x : World} (h : Ext w x) : w.heap.size ≤ x.heap.size := Below.size h
theorem ext_lt {w x : World} (h : Ext w x) {n : Nat} (hn : n < w.heap.size) : n < x.heap.size := Nat.lt_of_lt_of_le hn (Below.size h)
theorem ext_block {w x : World} (h : Ext w x) {k : Nat} (hk : k < w.heap.size) : x.heap[k]? = w.heap[k]? := Below.block h k hk
theorem ext_cell {w x : World} (h : Ext w x) : ∀ b o, b < w.heap.size → x.cell? ⟨b, o, none⟩ = w.cell? ⟨b, o, none⟩ := fun b o hb => Below.cell h (p := ⟨b, o, none⟩) hb
theorem ext_frozen {w x : World} (h : Ext w x) : ∀ b o, b < w.heap.size → x.frozen? ⟨b, o, none⟩ = w.frozen? ⟨b, o, none⟩ := fun b o hb => Below.frozen h (p := ⟨b, o, none⟩) hb
/-- the rules by which the walk reads in a world that is a letter -/
theorem ext_rules {w x : World} (h : Ext w x) : (∀ b o, b < w.heap.size → x.cell? ⟨b, o, none⟩ = w.cell? ⟨b, o, none⟩) ∧ (∀ b o, b < w.heap.size → x.frozen? ⟨b, o, none⟩ = w.frozen? ⟨b, o, none⟩) := ⟨ext_cell h, ext_frozen h⟩
theorem cell_grown (W : World) (d : Nat) (os : Array Obj) (b o : Nat) (h : b < W.heap.size) : (grow (redrawn W d) os).cell? ⟨b, o, none⟩ = W.cell? ⟨b, o, none⟩ := (below_regrown W d os).cell (p := ⟨b, o, none⟩) h
theorem block_cell {w : World} {b : Nat} {cs : Array Value} {t : TypeId} {fr : Nat × Nat} (h : w.heap[b]? = some (.cells cs t fr)) (o : Nat) : w.cell? ⟨b, o, none⟩ = cs[o]? := by simp [World.cell?, h]
theorem block_frozen {w : World} {b : Nat} {cs : Array Value} {t : TypeId} (h : w.heap[b]? = some (.cells cs t (0, 0))) (o : Nat) : w.frozen? ⟨b, o, none⟩ = false := by simp [World.frozen?, h]
theorem block_lt {w : World} {b : Nat} {x : Obj} (h : w.heap[b]? = some x) : b < w.heap.size := (Array.getElem?_eq_some_iff.1 h).1
theorem wp_gen {P : Program} {c : Code} {Q : Exit → Act → World → Prop} {a : Act} {w : World} (h : ∀ W, W = w → c.wp P Q a W) : c.wp P Q a w := h _ rfl

section
variable {P : Program} {ops : Array Oper} {W : World}

def looseAt (P : Program) (W : World) (o : Oper) (a : Act) (v : Value) : Prop :=
  ∀ p : Regrown, o.quietAt P a (fun w' => Ext (grow (redrawn W p.d) p.os) w') (grow (redrawn W p.d) p.os) v

def YD (P : Program) (ops : Array Oper) (W : World) (o : Oper) (v : Value) (a : Act) : Prop :=
  (Region.wanted o (yielded ops a.tmps) = true ∧ looseAt P W o a v) ∨ (Region.wanted o (yielded ops a.tmps) = false ∧ v = undef)

theorem YD.of_same {o : Oper} {v : Value} {a a' : Act} (hy : YD P ops W o v a) (he : execOp a'.eval o = execOp a.eval o)
    (hw : Region.wanted o (yielded ops a'.tmps) = Region.wanted o (yielded ops a.tmps)) : YD P ops W o v a' := by
  unfold YD looseAt Oper.quietAt at *
  rw [he, hw]
  exact hy

theorem YD.op {i : Nat} {o : Oper} {v : Value} {a : Act} {w : World} {K : Act → World → Prop} {Q : Exit → Act → World → Prop} (hi : ops[i]? = some o) (hy : YD P ops W o v a)
    (hb : Ext W w) (h : ∀ w', Ext w w' → K (a.put o.dst v) w') : wpOp P ops Q i K a w := by
  unfold wpOp
  simp only [hi]
  rcases hy with ⟨hw, hl⟩ | ⟨hw, rfl⟩
  · simp only [hw, if_true]
    refine .inl ?_
    obtain ⟨p, rfl⟩ := regrown_of_below hb
    have h3 := hl p
    unfold Oper.quietAt at h3
    unfold Oper.wp
    generalize (execOp a.eval o).run P (grow (redrawn W p.d) p.os) = r at *
    cases r with
    | ok n w' =>
      cases n <;> simp only [Oper.quietUpon] at h3 <;> simp only [Oper.upon]
      case value u =>
        obtain ⟨e1, e2⟩ := h3
        rw [e1, e2]
        exact h _ (ext_refl _)
      case skip =>
        obtain ⟨e1, e2⟩ := h3
        rw [e1, ← e2]
        exact h _ (ext_refl _)
      case enter f args =>
        obtain ⟨e1, hc⟩ := h3
        rw [e1]
        exact hc.mono fun e w'' ⟨he, hw''⟩ => by subst he; exact h _ hw''
    | halt x w' => simp only [Oper.quietUpon] at h3
  · simp only [hw, Bool.false_eq_true, if_false]
    exact h _ (ext_refl _)

def wpLoose (P : Program) (ops : Array Oper) (W : World) (Fin : Act → Prop) : List Nat → Act → Prop
  | [], a => Fin a
  | i :: l, a => ∃ o v, ops[i]? = some o ∧ YD P ops W o v a ∧ wpLoose P ops W Fin l (a.put o.dst v)

theorem wpLoose_nil {Fin : Act → Prop} {a : Act} (h : Fin a) : wpLoose P ops W Fin [] a := h

theorem wpLoose_step {Fin : Act → Prop} {i : Nat} {l : List Nat} {a : Act} {o : Oper} (ho : ops[i]? = some o)
    (h : ∀ K : Act → Prop, (∀ a, wpLoose P ops W Fin l a → K a) → if Region.wanted o (yielded ops a.tmps) then
      ∃ v, (∀ p : Regrown, o.quietAt P a (fun w' => Ext (grow (redrawn W p.d) p.os) w') (grow (redrawn W p.d) p.os) v) ∧ K (a.put o.dst v)
      else K (a.put o.dst undef)) : wpLoose P ops W Fin (i :: l) a := by
  have h' := h _ (fun _ h => h)
  by_cases hw : Region.wanted o (yielded ops a.tmps) = true
  · rw [if_pos hw] at h'
    obtain ⟨v, h1, h2⟩ := h'
    exact ⟨o, v, ho, .inl ⟨hw, h1⟩, h2⟩
  · rw [if_neg hw] at h'
    exact ⟨o, undef, ho, .inr ⟨by simpa using hw, rfl⟩, h'⟩

theorem wpLoose_mono {Fin Fin' : Act → Prop} (h : ∀ a, Fin a → Fin' a) : ∀ (l : List Nat) (a : Act), wpLoose P ops W Fin l a → wpLoose P ops W Fin' l a
  | [], _, h' => h _ h'
  | _ :: l, _, ⟨o, v, ho, hy, hr⟩ => ⟨o, v, ho, hy, wpLoose_mono h l _ hr⟩

def freshAt (P : Program) (W : World) (o : Oper) (a : Act) (mk : Nat → Value) (obj : Obj) : Prop :=
  ∀ p : Regrown, (execOp a.eval o).run P (grow (redrawn W p.d) p.os) = .ok (.value (mk (grow (redrawn W p.d) p.os).heap.size)) ((grow (redrawn W p.d) p.os).alloc obj)

def wpFresh (P : Program) (ops : Array Oper) (W : World) (Fin : Act → (World → Prop) → Prop) : List Nat → Act → List Nat → (World → Prop) → Prop
  | [], a, _, S => Fin a S
  | i :: l, a, ps, S => ∃ o mk obj, ops[i]? = some o ∧ o.guard = none ∧ freshAt P W o a mk obj ∧
      ∀ p, W.heap.size ≤ p → p ∉ ps → wpFresh P ops W Fin l (a.put o.dst (mk p)) (p :: ps) (fun w => S w ∧ w.heap[p]? = some obj)

theorem wpFresh_anti {Fin : Act → (World → Prop) → Prop} (hF : ∀ a S S', (∀ w, S' w → S w) → Fin a S → Fin a S') : ∀ (l : List Nat) (a : Act) (ps ps' : List Nat) (S S' : World → Prop),
    (∀ x ∈ ps, x ∈ ps') → (∀ w, S' w → S w) → wpFresh P ops W Fin l a ps S → wpFresh P ops W Fin l a ps' S'
  | [], a, _, _, S, S', _, hS, h => hF a S S' hS h
  | i :: l, a, ps, ps', S, S', hp, hS, ⟨o, mk, obj, ho, hg, hf, h⟩ =>
    ⟨o, mk, obj, ho, hg, hf, fun p hp1 hp2 => wpFresh_anti hF l _ (p :: ps) (p :: ps') _ _
      (fun x hx => by
        rcases List.mem_cons.1 hx with rfl | hx
        · exact List.mem_cons_self ..
        · exact List.mem_cons_of_mem _ (hp x hx))
      (fun w hw => ⟨hS w hw.1, hw.2⟩) (h p hp1 (fun hm => hp2 (hp p hm)))⟩

theorem alloc_inj {w : World} {o o' : Obj} (h : w.alloc o = w.alloc o') : o = o' := by
  have h1 := heap_alloc_new w o
  rw [h] at h1
  exact Option.some.inj (h1.symm.trans (heap_alloc_new w o'))

theorem freshAt_unique {o : Oper} {a a' : Act} {mk mk' : Nat → Value} {obj obj' : Obj} (he : execOp a'.eval o = execOp a.eval o) (h : freshAt P W o a mk obj) (h' : freshAt P W o a' mk' obj') :
    obj' = obj ∧ ∀ p, W.heap.size ≤ p → mk' p = mk p := by
  have key : ∀ p : Regrown, mk' (grow (redrawn W p.d) p.os).heap.size = mk (grow (redrawn W p.d) p.os).heap.size ∧ obj' = obj := fun p => by
    have h1 := h p
    have h2 := h' p
    rw [he, h1] at h2
    simp only [Result.ok.injEq, Next.value.injEq] at h2
    exact ⟨h2.1.symm, (alloc_inj h2.2).symm⟩
  refine ⟨(key ⟨0, #[]⟩).2, fun p hp => ?_⟩
  have := (key ⟨0, Array.replicate (p - W.heap.size) default⟩).1
  have e : (grow (redrawn W 0) (Array.replicate (p - W.heap.size) default)).heap.size = p := by
    simp [grow, redrawn]; omega
  rwa [e] at this

theorem exists_fresh (n : Nat) (ps : List Nat) : ∃ q, n ≤ q ∧ q ∉ ps := by
  refine ⟨n + ps.sum + 1, by omega, fun h => ?_⟩
  have : ∀ (l : List Nat) (x : Nat), x ∈ l → x ≤ l.sum := by
    intro l
    induction l with
    | nil => intro x hx; cases hx
    | cons y l ih =>
      intro x hx
      rcases List.mem_cons.1 hx with rfl | hx
      · simp
      · have := ih x hx; simp; omega
  have := this ps _ h
  omega

/-- both lie in the region, and are apart -/
def apB (ops : Array Oper) (i j : Nat) : Bool := match ops[i]?, ops[j]? with | some x, some y => x.apart ops y | _, _ => false
theorem apB_spec {i j : Nat} {x y : Oper} (hi : ops[i]? = some x) (hj : ops[j]? = some y) (h : apB ops i j = true) : x.apart ops y = true := by
  unfold apB at h; simpa [hi, hj] using h

theorem loose_pick (hsel : ∀ (j : Nat) (o : Oper) cs b, ops[j]? = some o → o.op ≠ .select cs b) {Fin : Act → Prop} {i : Nat} {l2 : List Nat} : ∀ (l1 : List Nat) (a : Act), (∀ k ∈ l1, apB ops k i = true) →
    wpLoose P ops W Fin (l1 ++ i :: l2) a → ∃ o v, ops[i]? = some o ∧ YD P ops W o v a ∧ wpLoose P ops W Fin (l1 ++ l2) (a.put o.dst v)
  | [], _, _, h => h
  | k :: l1, a, hap, ⟨ok, vk, hk, hyk, hr⟩ => by
    obtain ⟨o, v, hi, hy, hr'⟩ := loose_pick hsel l1 _ (fun x hx => hap x (List.mem_cons_of_mem _ hx)) hr
    obtain ⟨h1, h2, h3⟩ := Oper.apart_spec (apB_spec hk hi (hap k (List.mem_cons_self ..)))
    refine ⟨o, v, hi, hy.of_same (execOp_put o (fun cs b => hsel i o cs b hi) a _ _ h1).symm (wanted_put o a _ _ h1).symm, ok, vk, hk,
      hyk.of_same (execOp_put ok (fun cs b => hsel k ok cs b hk) a _ _ h3) (wanted_put ok a _ _ h3), ?_⟩
    rw [← Act.put_comm a vk v h2]
    exact hr'

theorem loose_put (hsel : ∀ (j : Nat) (o : Oper) cs b, ops[j]? = some o → o.op ≠ .select cs b) {Fin : Act → Prop} {i : Nat} {o : Oper} (hi : ops[i]? = some o) (u : Value) : ∀ (l : List Nat) (a : Act), (∀ k ∈ l, apB ops k i = true) →
    wpLoose P ops W Fin l a → wpLoose P ops W (fun a' => ∃ a0, a' = a0.put o.dst u ∧ execOp a0.eval o = execOp a.eval o ∧ Fin a0) l (a.put o.dst u)
  | [], a, _, h => ⟨a, rfl, rfl, h⟩
  | k :: l, a, hap, ⟨ok, vk, hk, hyk, hr⟩ => by
    obtain ⟨h1, h2, h3⟩ := Oper.apart_spec (apB_spec hk hi (hap k (List.mem_cons_self ..)))
    refine ⟨ok, vk, hk, hyk.of_same (execOp_put ok (fun cs b => hsel k ok cs b hk) a _ _ h3) (wanted_put ok a _ _ h3), ?_⟩
    rw [← Act.put_comm a vk u h2]
    refine wpLoose_mono ?_ _ _ (loose_put hsel hi u l _ (fun x hx => hap x (List.mem_cons_of_mem _ hx)) hr)
    rintro a' ⟨a0, h4, h5, h6⟩
    exact ⟨a0, h4, h5.trans (execOp_put o (fun cs b => hsel i o cs b hi) a _ _ h1), h6⟩

theorem loose_out (hsel : ∀ (j : Nat) (o : Oper) cs b, ops[j]? = some o → o.op ≠ .select cs b) {Fin : Act → Prop} {i : Nat} {o : Oper} (hi : ops[i]? = some o) : ∀ (l : List Nat) (a : Act), (∀ k ∈ l, apB ops k i = true) →
    wpLoose P ops W Fin l a → ∃ a', Fin a' ∧ execOp a'.eval o = execOp a.eval o
  | [], a, _, h => ⟨a, h, rfl⟩
  | k :: l, a, hap, ⟨ok, vk, hk, _, hr⟩ => by
    obtain ⟨h1, _, _⟩ := Oper.apart_spec (apB_spec hk hi (hap k (List.mem_cons_self ..)))
    obtain ⟨a', h, he⟩ := loose_out hsel hi l _ (fun x hx => hap x (List.mem_cons_of_mem _ hx)) hr
    exact ⟨a', h, he.trans (execOp_put o (fun cs b => hsel i o cs b hi) a _ _ h1)⟩

theorem fresh_pick (hsel : ∀ (j : Nat) (o : Oper) cs b, ops[j]? = some o → o.op ≠ .select cs b) {Fin : Act → (World → Prop) → Prop} (hF : ∀ a S S', (∀ w, S' w → S w) → Fin a S → Fin a S') {i : Nat} {l2 : List Nat} :
    ∀ (l1 : List Nat) (a : Act) (ps : List Nat) (S : World → Prop), (∀ k ∈ l1, apB ops k i = true) → wpFresh P ops W Fin (l1 ++ i :: l2) a ps S →
    ∃ o mk obj, ops[i]? = some o ∧ o.guard = none ∧ freshAt P W o a mk obj ∧
      ∀ p, W.heap.size ≤ p → p ∉ ps → wpFresh P ops W Fin (l1 ++ l2) (a.put o.dst (mk p)) (p :: ps) (fun w => S w ∧ w.heap[p]? = some obj)
  | [], _, _, _, _, h => h
  | k :: l1, a, ps, S, hap, ⟨ok, mkk, objk, hk, hgk, hfk, hr⟩ => by
    obtain ⟨q, hq1, hq2⟩ := exists_fresh W.heap.size ps
    have ihq := fun (q : Nat) (h1 : W.heap.size ≤ q) (h2 : q ∉ ps) => fresh_pick hsel hF l1 _ _ _ (fun x hx => hap x (List.mem_cons_of_mem _ hx)) (hr q h1 h2)
    obtain ⟨o, mk, obj, hi, hg, hf, _⟩ := ihq q hq1 hq2
    obtain ⟨h1, h2, h3⟩ := Oper.apart_spec (apB_spec hk hi (hap k (List.mem_cons_self ..)))
    have he : ∀ u, execOp (a.put ok.dst u).eval o = execOp a.eval o := fun u => execOp_put o (fun cs b => hsel i o cs b hi) a _ _ h1
    have hfa : freshAt P W o a mk obj := fun p => by rw [← he (mkk q)]; exact hf p
    refine ⟨o, mk, obj, hi, hg, hfa, fun p hp1 hp2 => ⟨ok, mkk, objk, hk, hgk, fun r => ?_, fun pk hk1 hk2 => ?_⟩⟩
    · rw [execOp_put ok (fun cs b => hsel k ok cs b hk) a _ _ h3]; exact hfk r
    · obtain ⟨o', mk', obj', hi', _, hf', hr'⟩ := ihq pk hk1 (fun hm => hk2 (List.mem_cons_of_mem _ hm))
      obtain rfl : o' = o := Option.some.inj (hi'.symm.trans hi)
      obtain ⟨e1, e2⟩ := freshAt_unique (he _) hfa hf'
      have := hr' p hp1 (fun hm => by
        rcases List.mem_cons.1 hm with rfl | hm
        · exact hk2 (List.mem_cons_self ..)
        · exact hp2 hm)
      rw [e2 p hp1, e1, Act.put_comm a (mkk pk) (mk p) h2] at this
      refine wpFresh_anti hF _ _ _ _ _ _ (fun x hx => ?_) (fun w hw => ⟨⟨hw.1.1, hw.2⟩, hw.1.2⟩) this
      rcases List.mem_cons.1 hx with rfl | hx
      · exact List.mem_cons_of_mem _ (List.mem_cons_self ..)
      · rcases List.mem_cons.1 hx with rfl | hx
        · exact List.mem_cons_self ..
        · exact List.mem_cons_of_mem _ (List.mem_cons_of_mem _ hx)

theorem wpFresh_nil {Fin : Act → (World → Prop) → Prop} {a : Act} {ps : List Nat} {S : World → Prop} (h : Fin a S) : wpFresh P ops W Fin [] a ps S := h
theorem wpFresh_step {Fin : Act → (World → Prop) → Prop} {i : Nat} {l : List Nat} {a : Act} {ps : List Nat} {S : World → Prop} {o : Oper} (mk : Nat → Value) (obj : Obj) (ho : ops[i]? = some o) (hg : o.guard = none)
    (hf : ∀ w, (execOp a.eval o).run P w = .ok (.value (mk w.heap.size)) (w.alloc obj))
    (h : ∀ p, W.heap.size ≤ p → p ∉ ps → wpFresh P ops W Fin l (a.put o.dst (mk p)) (p :: ps) (fun w => S w ∧ w.heap[p]? = some obj)) : wpFresh P ops W Fin (i :: l) a ps S :=
  ⟨o, mk, obj, ho, hg, fun _ => hf _, h⟩

def pairsB (ops : Array Oper) : List Nat → Bool
  | [] => true
  | i :: l => l.all (fun j => (Region.waitsFor .any ops j i || apB ops i j) && !Region.waitsFor .any ops i j && i != j) && pairsB ops l
def selfB (ops : Array Oper) (n : Nat) (i : Nat) : Bool :=
  !Region.waitsFor .any ops i i && decide (i < n) && (match ops[i]? with | some o => o.after.all (fun e => !Region.binds .any e || decide (e.on < n)) | none => false)
def canon (ops : Array Oper) (n : Nat) : Array Bool := (Array.range ops.size).map (fun i => decide (i < n))
def freeB (ops : Array Oper) (n : Nat) (D A : List Nat) : Bool :=
  Region.noSelect ops && decide (n ≤ ops.size) && pairsB ops (D ++ A) && (D ++ A).all (selfB ops n) && (List.range n).all (fun i => (D ++ A).contains i) &&
  (decide (n = ops.size) || (Region.sinkB .any ops n && Region.chainB .any ops n)) && Region.seqB .any ops (ops.size - n) n (canon ops n)

def Pr (ops : Array Oper) (i j : Nat) : Prop := (Region.waitsFor .any ops j i = true ∨ apB ops i j = true) ∧ Region.waitsFor .any ops i j = false ∧ i ≠ j
theorem pairsB_spec : ∀ (l : List Nat), pairsB ops l = true → List.Pairwise (Pr ops) l
  | [], _ => .nil
  | i :: l, h => by
    simp only [pairsB, Bool.and_eq_true, List.all_eq_true] at h
    refine .cons (fun j hj => ?_) (pairsB_spec l h.2)
    have := h.1 j hj
    simp only [Bool.or_eq_true, Bool.not_eq_true', bne_iff_ne, ne_eq] at this
    exact ⟨this.1.1, this.1.2, this.2⟩

theorem waits_of {i j : Nat} {o : Oper} {e : Edge} (ho : ops[j]? = some o) (he : e ∈ o.after) (hb : Region.binds .any e = true) (hi : e.on = i) : Region.waitsFor .any ops j i = true := by
  unfold Region.waitsFor
  simp only [ho]
  exact Array.any_eq_true'.2 ⟨e, he, by simp [hb, hi]⟩

theorem core {Q : Exit → Act → World → Prop} {n : Nat} {D A : List Nat} {T : List Oper} (hsel : ∀ (j : Nat) (o : Oper) cs b, ops[j]? = some o → o.op ≠ .select cs b) (hn : n ≤ ops.size)
    (hD : List.Pairwise (Pr ops) (D ++ A)) (hS : ∀ i ∈ D ++ A, selfB ops n i = true) (hfull : ∀ i, i < n → i ∈ D ++ A)
    (htail : n = ops.size ∨ (Region.sinkB .any ops n = true ∧ Region.chainB .any ops n = true)) (hseq : Region.seqB .any ops (ops.size - n) n (canon ops n) = true)
    (hT : ∀ j, T[j]? = ops[n + j]?) (hTl : T.length = ops.size - n) :
    ∀ (m : Nat) (listed : Array Bool) (a : Act) (w : World) (Dr Ar ps : List Nat) (S : World → Prop), Dr.length + Ar.length = m → HeadInv .any ops n listed →
      (∀ i, i < n → (listed.getD i true = false ↔ i ∈ Dr ∨ i ∈ Ar)) → Dr.Sublist D → Ar.Sublist A → Ext W w → S w →
      (∀ w w', Ext w w' → S w → S w') → (∀ w, S w → ∀ p ∈ ps, p < w.heap.size) →
      wpLoose P ops W (fun a' => wpFresh P ops W (fun a'' S' => ∀ w', Ext W w' → S' w' → wpList P ops Q T a'' w') Ar a' ps S) Dr a →
      wpAny P .any ops Q (m + (ops.size - n)) listed a w := by
  have hF : ∀ (a : Act) (S S' : World → Prop), (∀ w, S' w → S w) → (∀ w', Ext W w' → S w' → wpList P ops Q T a w') → (∀ w', Ext W w' → S' w' → wpList P ops Q T a w') :=
    fun a S S' h h1 w' hw hs => h1 w' hw (h _ hs)
  intro m
  induction m with
  | zero =>
    intro listed a w Dr Ar ps S hm inv hun hDr hAr hb hs hmono hps h
    obtain rfl : Dr = [] := List.eq_nil_of_length_eq_zero (by omega)
    obtain rfl : Ar = [] := List.eq_nil_of_length_eq_zero (by omega)
    have h' : wpList P ops Q T a w := h w hb hs
    have hc : listed = canon ops n := by
      apply Array.ext_getElem?
      intro i
      by_cases hi : i < ops.size
      · by_cases hin : i < n
        · have h1 := hun i hin
          simp only [List.not_mem_nil, or_self, iff_false, Bool.not_eq_false] at h1
          have hl : i < listed.size := by rw [inv.size]; exact hi
          simp [canon, hi, hin, hl] at h1 ⊢
          exact h1
        · have h1 := inv.tail i (by omega) hi
          have hl : i < listed.size := by rw [inv.size]; exact hi
          simp [canon, hi, hin, hl] at h1 ⊢
          exact h1
      · rw [Array.getElem?_eq_none (by rw [inv.size]; omega), Array.getElem?_eq_none (by simp [canon]; omega)]
    rw [Nat.zero_add, ← hTl]
    refine wpAny_of_seq T n listed a w hT ?_ h'
    rw [hTl, hc]; exact hseq
  | succ m ih =>
    intro listed a w Dr Ar ps S hm inv hun hDr hAr hb hs hmono hps h
    rw [show m + 1 + (ops.size - n) = (m + (ops.size - n)) + 1 by omega]
    have hsub : (Dr ++ Ar).Sublist (D ++ A) := hDr.append hAr
    have hpw : List.Pairwise (Pr ops) (Dr ++ Ar) := hD.sublist hsub
    have hmem : ∀ i ∈ Dr ++ Ar, selfB ops n i = true := fun i hi => hS i (hsub.subset hi)
    have hlt : ∀ i ∈ Dr ++ Ar, i < n := fun i hi => by
      have := hmem i hi
      simp only [selfB, Bool.and_eq_true, decide_eq_true_eq] at this
      exact this.1.2
    have hunl : ∀ i ∈ Dr ++ Ar, listed.getD i true = false := fun i hi => (hun i (hlt i hi)).2 (List.mem_append.1 hi)
    -- what is ready does not wait for what has not come up
    have hready : ∀ i ∈ Region.ready .any ops listed, ∀ k, listed.getD k true = false → Region.waitsFor .any ops i k = false := fun i hi k hk => by
      cases hw : Region.waitsFor .any ops i k with
      | false => rfl
      | true =>
        obtain ⟨oj, hoj, e, he, hbd, hon⟩ := Region.waitsFor_spec hw
        obtain ⟨_, o, ho, hall⟩ := mem_ready.1 hi
        obtain rfl : o = oj := Option.some.inj (ho.symm.trans hoj)
        have := hall e he hbd
        rw [hon, getD_both hk] at this
        cases this
    constructor
    · -- the first of what is left is ready
      intro hnil
      exfalso
      obtain ⟨x, xs, hx⟩ : ∃ x xs, Dr ++ Ar = x :: xs := by
        cases hl : Dr ++ Ar with
        | nil => have := congrArg List.length hl; simp only [List.length_append, List.length_nil] at this; omega
        | cons x xs => exact ⟨x, xs, rfl⟩
      have hxm : x ∈ Dr ++ Ar := by rw [hx]; exact List.mem_cons_self ..
      have hsx := hmem x hxm
      have hself := hsx
      simp only [selfB, Bool.and_eq_true, decide_eq_true_eq, Bool.not_eq_true'] at hsx
      obtain ⟨⟨hs1, hs2⟩, hs3⟩ := hsx
      cases ho : ops[x]? with
      | none => rw [ho] at hs3; cases hs3
      | some o =>
        rw [ho] at hs3
        have : x ∈ Region.ready .any ops listed := mem_ready.2 ⟨hunl x hxm, o, ho, fun e he hbd => by
          have h1 := (Array.all_eq_true'.1 hs3) e he
          simp only [hbd, Bool.not_true, Bool.false_or, decide_eq_true_eq] at h1
          cases hl : listed.getD e.on false with
          | true => rfl
          | false =>
            have hl' : listed.getD e.on true = false := getD_in (by rw [inv.size]; omega) hl
            have hin := (hun e.on h1).1 hl'
            have hin' : e.on ∈ x :: xs := by rw [← hx]; exact List.mem_append.2 hin
            have hwt := waits_of ho he hbd rfl
            rcases List.mem_cons.1 hin' with hh | hh
            · rw [hh, hs1] at hwt; cases hwt
            · rw [hx] at hpw
              have := (List.pairwise_cons.1 hpw).1 _ hh
              rw [this.2.1] at hwt; cases hwt⟩
        rw [hnil] at this
        cases this
    · intro i hi
      have hiu := (mem_ready.1 hi).1
      obtain ⟨_, o, ho, _⟩ := mem_ready.1 hi
      have hisz : i < ops.size := (Array.getElem?_eq_some_iff.1 ho).1
      by_cases hin : i < n
      · have hset : ∀ (X Y : List Nat), (∀ j, j < n → j ≠ i → ((j ∈ Dr ∨ j ∈ Ar) ↔ (j ∈ X ∨ j ∈ Y))) → i ∉ X → i ∉ Y → ∀ j, j < n → ((listed.setIfInBounds i true).getD j true = false ↔ j ∈ X ∨ j ∈ Y) := fun X Y hXY hX hY j hj => by
          by_cases hji : i = j
          · subst hji
            have h1 : (listed.setIfInBounds i true).getD i true = true := by
              have : i < listed.size := by rw [inv.size]; exact hisz
              simp [this]
            rw [h1]
            simp [hX, hY]
          · rw [getD_set_ne true hji, hun j hj, hXY j hj (fun h => hji h.symm)]
        rcases (hun i hin).1 hiu with hmD | hmA
        · obtain ⟨l1, l2, rfl⟩ := List.append_of_mem hmD
          have hpwD : List.Pairwise (Pr ops) (l1 ++ i :: l2) := hpw.sublist (List.sublist_append_left ..)
          have hap : ∀ k ∈ l1, apB ops k i = true := fun k hk => by
            have h1 := (List.pairwise_append.1 hpwD).2.2 k hk i (List.mem_cons_self ..)
            rcases h1.1 with h2 | h2
            · rw [hready i hi k (hunl k (List.mem_append_left _ (List.mem_append_left _ hk)))] at h2; cases h2
            · exact h2
          obtain ⟨o', v, ho', hy, hr⟩ := loose_pick hsel l1 a hap h
          obtain rfl : o' = o := Option.some.inj (ho'.symm.trans ho)
          have hsl : (l1 ++ l2).Sublist (l1 ++ i :: l2) := (List.Sublist.refl l1).append (List.sublist_cons_self ..)
          have hni : i ∉ l1 ++ l2 ∧ i ∉ Ar := by
            have h1 := List.pairwise_append.1 hpwD
            refine ⟨fun hm' => ?_, fun hm' => ?_⟩
            · rcases List.mem_append.1 hm' with hm' | hm'
              · exact (h1.2.2 i hm' i (List.mem_cons_self ..)).2.2 rfl
              · exact ((List.pairwise_cons.1 h1.2.1).1 i hm').2.2 rfl
            · exact ((List.pairwise_append.1 hpw).2.2 i (by simp) i hm').2.2 rfl
          refine hy.op ho hb (fun w' hw' => ih _ _ w' (l1 ++ l2) Ar ps S (by simp at hm ⊢; omega) (inv.set hi hin) (hset _ _ (fun j _ hji => by simp [hji]) hni.1 hni.2) (hsl.trans hDr) hAr
            (ext_trans hb hw') (hmono _ _ hw' hs) hmono hps hr)
        · obtain ⟨l1, l2, rfl⟩ := List.append_of_mem hmA
          have hpw2 := List.pairwise_append.1 hpw
          have hapD : ∀ k ∈ Dr, apB ops k i = true := fun k hk => by
            have h1 := hpw2.2.2 k hk i (by simp)
            rcases h1.1 with h2 | h2
            · rw [hready i hi k (hunl k (List.mem_append_left _ hk))] at h2; cases h2
            · exact h2
          have hapA : ∀ k ∈ l1, apB ops k i = true := fun k hk => by
            have h1 := (List.pairwise_append.1 hpw2.2.1).2.2 k hk i (List.mem_cons_self ..)
            rcases h1.1 with h2 | h2
            · rw [hready i hi k (hunl k (by simp [hk]))] at h2; cases h2
            · exact h2
          have hpickA := fun (a' : Act) (hh : wpFresh P ops W (fun a'' S' => ∀ w', Ext W w' → S' w' → wpList P ops Q T a'' w') (l1 ++ i :: l2) a' ps S) => fresh_pick hsel hF l1 a' ps S hapA hh
          obtain ⟨a1, hf1, he1⟩ := loose_out hsel ho Dr a hapD h
          obtain ⟨o', mk, obj, ho', hg, hfr1, _⟩ := hpickA a1 hf1
          obtain rfl : o' = o := Option.some.inj (ho'.symm.trans ho)
          have hfr : freshAt P W o' a mk obj := fun p => by rw [← he1]; exact hfr1 p
          obtain ⟨p0, hp0⟩ := regrown_of_below hb
          have hrun := hfr p0
          rw [← hp0] at hrun
          have hfresh : w.heap.size ∉ ps := fun hm' => by have := hps w hs _ hm'; omega
          have hW0 : W.heap.size ≤ w.heap.size := ext_size hb
          have hb1 : Ext w (w.alloc obj) := ext_alloc (ext_refl _) _
          unfold wpOp
          simp only [ho]
          rw [if_pos (by simp [Region.wanted, hg])]
          refine .inl ?_
          unfold Oper.wp
          rw [hrun]
          simp only [Oper.upon]
          have hsl : (l1 ++ l2).Sublist (l1 ++ i :: l2) := (List.Sublist.refl l1).append (List.sublist_cons_self ..)
          have hni : i ∉ Dr ∧ i ∉ l1 ++ l2 := by
            have h1 := List.pairwise_append.1 hpw2.2.1
            refine ⟨fun hm' => (hpw2.2.2 i hm' i (by simp)).2.2 rfl, fun hm' => ?_⟩
            rcases List.mem_append.1 hm' with hm' | hm'
            · exact (h1.2.2 i hm' i (List.mem_cons_self ..)).2.2 rfl
            · exact ((List.pairwise_cons.1 h1.2.1).1 i hm').2.2 rfl
          refine ih _ _ (w.alloc obj) Dr (l1 ++ l2) (w.heap.size :: ps) (fun w' => S w' ∧ w'.heap[w.heap.size]? = some obj) (by simp at hm ⊢; omega) (inv.set hi hin) (hset _ _ (fun j _ hji => by simp [hji]) hni.1 hni.2) hDr (hsl.trans hAr)
            (ext_trans hb hb1) ⟨hmono _ _ hb1 hs, heap_alloc_new w obj⟩ (fun w1 w2 h12 h1 => ⟨hmono _ _ h12 h1.1, by
              rw [ext_block h12 (Array.getElem?_eq_some_iff.1 h1.2).1]; exact h1.2⟩) (fun w1 h1 p hp => ?_) ?_
          · rcases List.mem_cons.1 hp with rfl | hp
            · exact (Array.getElem?_eq_some_iff.1 h1.2).1
            · exact hps w1 h1.1 p hp
          · refine wpLoose_mono ?_ _ _ (loose_put hsel ho (mk w.heap.size) Dr a hapD h)
            rintro a' ⟨a0, rfl, he0, hf0⟩
            obtain ⟨o2, mk2, obj2, ho2, _, hfr2, hr2⟩ := hpickA a0 hf0
            obtain rfl : o2 = o' := Option.some.inj (ho2.symm.trans ho)
            obtain ⟨e1, e2⟩ := freshAt_unique he0 hfr hfr2
            have := hr2 w.heap.size hW0 hfresh
            rw [e2 _ hW0, e1] at this
            exact this
      · -- the tail waits
        exfalso
        rcases htail with rfl | ⟨hsk, hch⟩
        · omega
        · obtain ⟨x, hx⟩ : ∃ x, x ∈ Dr ++ Ar := by
            cases hl : Dr ++ Ar with
            | nil => have := congrArg List.length hl; simp only [List.length_append, List.length_nil] at this; omega
            | cons x xs => exact ⟨x, List.mem_cons_self ..⟩
          exact tail_waits hsk hch (by omega) inv _ x rfl (hlt x hx) (hunl x hx) i (by omega) hi

/-- **A region that draws its order, walked once.** -/
theorem wp_region_free {id : Nat} {l : List Oper} {Q : Exit → Act → World → Prop} {a : Act} (n : Nat) (D A : List Nat) (hm : P.follows .mixedOrders = true) (hB : freeB l.toArray n D A = true)
    (h : wpLoose P l.toArray W (fun a' => wpFresh P l.toArray W (fun a'' S' => ∀ w', Ext W w' → S' w' → wpList P l.toArray Q (l.drop n) a'' w') A a' [] (fun _ => True)) D a) :
    (Code.region id l.toArray true).wp P Q a W := by
  simp only [freeB, Bool.and_eq_true, decide_eq_true_eq, Bool.or_eq_true] at hB
  obtain ⟨⟨⟨⟨⟨⟨hsel, hn⟩, hp⟩, hs⟩, hf⟩, ht⟩, hq⟩ := hB
  have hfull : ∀ i, i < n → i ∈ D ++ A := fun i hi => by
    have := List.all_eq_true.1 hf i (List.mem_range.2 hi)
    simpa using this
  have hpw := pairsB_spec _ hp
  have hself := List.all_eq_true.1 hs
  have hnd : (D ++ A).length = n := by
    have h1 : (D ++ A).Nodup := hpw.imp (fun h => h.2.2)
    have h2 : (List.range n).Perm (D ++ A) := (List.perm_ext_iff_of_nodup List.nodup_range h1).2 (fun x => by
      rw [List.mem_range]
      refine ⟨hfull x, fun hx => ?_⟩
      have := hself x hx
      simp only [selfB, Bool.and_eq_true, decide_eq_true_eq] at this
      exact this.1.2)
    have := h2.length_eq
    simpa using this.symm
  refine wp_region_any hm ?_
  have := core (P := P) (ops := l.toArray) (W := W) (Q := Q) (T := l.drop n) (Region.noSelect_spec hsel) hn hpw hself hfull ht hq (fun j => by simp [List.getElem?_drop]) (by simp)
    n (Array.replicate l.toArray.size false) a W.drew D A [] (fun _ => True) (by simpa using hnd)
    ⟨by simp, fun j oj _ hl => (by rw [getD_replicate_false] at hl; cases hl), fun t _ ht => getD_in (by simpa using ht) (getD_replicate_false _ _)⟩
    (fun i hi => by
      have h1 : i < l.toArray.size := by omega
      have h2 : (Array.replicate l.toArray.size false).getD i true = false := getD_in (by simpa using h1) (getD_replicate_false _ _)
      rw [h2]
      simpa using hfull i hi)
    (List.Sublist.refl _) (List.Sublist.refl _) (ext_drew (ext_refl _)) trivial (fun _ _ _ _ => trivial) (fun _ _ p hp => by cases hp) h
  rw [show n + (l.toArray.size - n) = l.toArray.size by omega] at this
  exact this
end
end Go.Proofs.Ytiabmdboacpmcaa
/- A region that draws its order, walked once: operations that look at no world; operations whose value does not hang on the order; operations that make one new block; a tail in forced order. -/
namespace Go.Proofs.Ytiabmdboacpmcaa
open Go Go.RowKit Go.Sort

section
variable {P : Program} {ops : Array Oper} {W : World}

def wpSeq (P : Program) (ops : Array Oper) (Q : Exit → Act → World → Prop) : List Nat → Act → World → Prop
  | [], a, w => Q .normal a w
  | i :: l, a, w => wpOp P ops Q i (wpSeq P ops Q l) a w
theorem wpSeq_of_list {Q : Exit → Act → World → Prop} : ∀ (T : List Nat) (l : List Oper) (a : Act) (w : World), (T.map fun i => ops[i]?) = l.map some → wpList P ops Q l a w → wpSeq P ops Q T a w
  | [], [], _, _, _, h => h
  | [], _ :: _, _, _, h, _ => by simp at h
  | _ :: _, [], _, _, h, _ => by simp at h
  | i :: T, o :: l, a, w, h, hl => by
    simp only [List.map_cons, List.cons.injEq] at h
    have ho : ops[i]? = some o := h.1
    have : wpOp P ops Q i (wpList P ops Q l) a w := by unfold wpOp; simp only [ho]; exact hl
    exact wpOp_mono (fun a' w' h' => wpSeq_of_list T l a' w' h.2 h') this
def seqL (ops : Array Oper) : List Nat → Array Bool → Bool
  | [], listed => (Region.ready .any ops listed).isEmpty
  | t :: l, listed => decide (Region.ready .any ops listed = [t]) && seqL ops l (listed.setIfInBounds t true)
theorem wpAny_of_seqL {Q : Exit → Act → World → Prop} : ∀ (T : List Nat) (listed : Array Bool) (a : Act) (w : World), seqL ops T listed = true → wpSeq P ops Q T a w → wpAny P .any ops Q T.length listed a w
  | [], _, _, _, hB, h => ⟨by simpa [seqL] using hB, h⟩
  | t :: l, listed, a, w, hB, h => by
    simp only [seqL, Bool.and_eq_true, decide_eq_true_eq] at hB
    refine ⟨fun h1 => (by rw [hB.1] at h1; cases h1), fun i hi => ?_⟩
    rw [hB.1] at hi
    have hik : i = t := by simpa using hi
    subst hik
    exact wpOp_mono (fun a' w' h' => wpAny_of_seqL l _ a' w' hB.2 h') h

def mcanon (ops : Array Oper) (T : List Nat) : Array Bool := (Array.range ops.size).map (fun i => decide (i ∉ T))
def mselfB (ops : Array Oper) (T : List Nat) (i : Nat) : Bool :=
  !Region.waitsFor .any ops i i && decide (i < ops.size ∧ i ∉ T) && (match ops[i]? with | some o => o.after.all (fun e => !Region.binds .any e || decide (e.on < ops.size ∧ e.on ∉ T)) | none => false)
def sinkL (ops : Array Oper) (t : Nat) : List Nat → Bool
  | [] => true
  | i :: l => (Region.waitsFor .any ops t i || l.any (fun j => Region.waitsFor .any ops j i)) && sinkL ops t l
def chainL (ops : Array Oper) : List Nat → Bool
  | t :: u :: l => Region.waitsFor .any ops u t && chainL ops (u :: l)
  | _ => true
structure MInv (ops : Array Oper) (T : List Nat) (listed : Array Bool) : Prop where
  size : listed.size = ops.size
  closed : ∀ j oj, ops[j]? = some oj → listed.getD j false = true → ∀ e ∈ oj.after, Region.binds .any e = true → listed.getD e.on false = true
  tail : ∀ t, t ∈ T → t < ops.size → listed.getD t true = false
theorem MInv.set {T : List Nat} {listed : Array Bool} {i : Nat} (inv : MInv ops T listed) (hi : i ∈ Region.ready .any ops listed) (hin : i ∉ T) : MInv ops T (listed.setIfInBounds i true) := by
  obtain ⟨_, oi, hoi, hall⟩ := mem_ready.1 hi
  refine ⟨by simp [inv.size], fun j oj hj hl e he hb => ?_, fun t ht ht' => by
    have hne : i ≠ t := fun h => hin (by rw [h]; exact ht)
    rw [getD_set_ne true hne]; exact inv.tail t ht ht'⟩
  by_cases hij : i = j
  · subst hij
    obtain rfl : oj = oi := Option.some.inj (hj.symm.trans hoi)
    exact getD_set_true (hall e he hb)
  · rw [getD_set_ne false hij] at hl
    exact getD_set_true (inv.closed j oj hj hl e he hb)

/-- whoever waits for one that has not come up has not come up -/
theorem waits_un {T : List Nat} {listed : Array Bool} (inv : MInv ops T listed) {i j : Nat} (hw : Region.waitsFor .any ops j i = true) (hi : listed.getD i false = false) : listed.getD j false = false := by
  cases hl : listed.getD j false with
  | false => rfl
  | true =>
    obtain ⟨oj, hoj, e, he, hb, hon⟩ := Region.waitsFor_spec hw
    have := inv.closed j oj hoj hl e he hb
    rw [hon, hi] at this
    cases this
theorem sink_spec {T : List Nat} {listed : Array Bool} (inv : MInv ops T listed) {t : Nat} : ∀ (L : List Nat), sinkL ops t L = true → (∃ i ∈ L, listed.getD i false = false) → ∃ i ∈ L, listed.getD i false = false ∧ Region.waitsFor .any ops t i = true
  | [], _, ⟨i, hi, _⟩ => by cases hi
  | i :: l, hB, ⟨x, hx, hxu⟩ => by
    simp only [sinkL, Bool.and_eq_true, Bool.or_eq_true] at hB
    by_cases hex : ∃ y ∈ l, listed.getD y false = false
    · obtain ⟨y, hy, h⟩ := sink_spec inv l hB.2 hex
      exact ⟨y, List.mem_cons_of_mem _ hy, h⟩
    · rcases List.mem_cons.1 hx with rfl | hx
      · rcases hB.1 with h | h
        · exact ⟨x, List.mem_cons_self .., hxu, h⟩
        · obtain ⟨j, hj, hw⟩ := List.any_eq_true.1 h
          exact absurd ⟨j, hj, waits_un inv hw hxu⟩ hex
      · exact absurd ⟨x, hx, hxu⟩ hex
theorem chain_spec {listed : Array Bool} : ∀ (T : List Nat), chainL ops T = true → (∀ t ∈ T, listed.getD t false = false) → ∀ t l, T = t :: l → ∀ u ∈ l, ∃ k, listed.getD k false = false ∧ Region.waitsFor .any ops u k = true
  | [], _, _, t, l, h => by cases h
  | [x], _, _, t, l, h => by cases h; intro u hu; cases hu
  | x :: y :: r, hB, hun, t, l, h => by
    cases h
    simp only [chainL, Bool.and_eq_true] at hB
    intro u hu
    rcases List.mem_cons.1 hu with rfl | hu
    · exact ⟨x, hun x (List.mem_cons_self ..), hB.1⟩
    · exact chain_spec (y :: r) hB.2 (fun z hz => hun z (List.mem_cons_of_mem _ hz)) y r rfl u hu
theorem not_ready_of_waits {listed : Array Bool} {i k : Nat} (hw : Region.waitsFor .any ops i k = true) (hk : listed.getD k false = false) : i ∉ Region.ready .any ops listed := fun hi => by
  obtain ⟨oj, hoj, e, he, hbd, hon⟩ := Region.waitsFor_spec hw
  obtain ⟨_, o, ho, hall⟩ := mem_ready.1 hi
  obtain rfl : o = oj := Option.some.inj (ho.symm.trans hoj)
  have := hall e he hbd
  rw [hon, hk] at this
  cases this
theorem mtail_waits {T DA L : List Nat} {listed : Array Bool} (hsink : ∀ t l, T = t :: l → sinkL ops t DA = true) (hchain : chainL ops T = true) (inv : MInv ops T listed) (hsub : L.Sublist DA) (hne : L ≠ [])
    (hunl : ∀ i ∈ L, listed.getD i true = false) (_hall : ∀ j, j < ops.size → j ∉ T → listed.getD j true = false → j ∈ L) : ∀ i ∈ T, i ∉ Region.ready .any ops listed := by
  intro i hi hr
  cases T with
  | nil => cases hi
  | cons t l =>
    obtain ⟨x, hx⟩ := List.exists_mem_of_ne_nil L hne
    have hmem := mem_ready.1 hr
    rcases List.mem_cons.1 hi with rfl | hi'
    · obtain ⟨y, _, hyu, hw⟩ := sink_spec inv DA (hsink i l rfl) ⟨x, hsub.subset hx, getD_both (hunl x hx)⟩
      exact not_ready_of_waits hw hyu hr
    · by_cases hall : ∀ z ∈ (t :: l), listed.getD z false = false
      · obtain ⟨k, hk, hw⟩ := chain_spec (t :: l) hchain hall t l rfl i hi'
        exact not_ready_of_waits hw hk hr
      · refine hall (fun z hz => ?_)
        rcases Nat.lt_or_ge z ops.size with h | h
        · exact getD_both (inv.tail z hz h)
        · simp [Array.getElem?_eq_none (show listed.size ≤ z by rw [inv.size]; exact h)]

theorem mcore {Q : Exit → Act → World → Prop} {D A T : List Nat} (hsel : ∀ (j : Nat) (o : Oper) cs b, ops[j]? = some o → o.op ≠ .select cs b)
    (hD : List.Pairwise (Pr ops) (D ++ A)) (hS : ∀ i ∈ D ++ A, mselfB ops T i = true) (hsink : ∀ t l, T = t :: l → sinkL ops t (D ++ A) = true) (hchain : chainL ops T = true) (hseq : seqL ops T (mcanon ops T) = true) :
    ∀ (m : Nat) (listed : Array Bool) (a : Act) (w : World) (Dr Ar ps : List Nat) (S : World → Prop), Dr.length + Ar.length = m → MInv ops T listed →
      (∀ i, i < ops.size → i ∉ T → (listed.getD i true = false ↔ i ∈ Dr ∨ i ∈ Ar)) → Dr.Sublist D → Ar.Sublist A → Ext W w → S w →
      (∀ w w', Ext w w' → S w → S w') → (∀ w, S w → ∀ p ∈ ps, p < w.heap.size) →
      wpLoose P ops W (fun a' => wpFresh P ops W (fun a'' S' => ∀ w', Ext W w' → S' w' → wpSeq P ops Q T a'' w') Ar a' ps S) Dr a →
      wpAny P .any ops Q (m + T.length) listed a w := by
  have hF : ∀ (a : Act) (S S' : World → Prop), (∀ w, S' w → S w) → (∀ w', Ext W w' → S w' → wpSeq P ops Q T a w') → (∀ w', Ext W w' → S' w' → wpSeq P ops Q T a w') :=
    fun a S S' h h1 w' hw hs => h1 w' hw (h _ hs)
  intro m
  induction m with
  | zero =>
    intro listed a w Dr Ar ps S hm inv hun hDr hAr hb hs hmono hps h
    obtain rfl : Dr = [] := List.eq_nil_of_length_eq_zero (by omega)
    obtain rfl : Ar = [] := List.eq_nil_of_length_eq_zero (by omega)
    have h' : wpSeq P ops Q T a w := h w hb hs
    have hc : listed = mcanon ops T := by
      apply Array.ext_getElem?
      intro i
      by_cases hi : i < ops.size
      · have hl : i < listed.size := by rw [inv.size]; exact hi
        by_cases hin : i ∈ T
        · have h1 := inv.tail i hin hi
          simp [mcanon, hi, hin, hl] at h1 ⊢
          exact h1
        · have h1 := hun i hi hin
          simp only [List.not_mem_nil, or_self, iff_false, Bool.not_eq_false] at h1
          simp [mcanon, hi, hin, hl] at h1 ⊢
          exact h1
      · rw [Array.getElem?_eq_none (by rw [inv.size]; omega), Array.getElem?_eq_none (by simp [mcanon]; omega)]
    rw [Nat.zero_add]
    exact wpAny_of_seqL T listed a w (by rw [hc]; exact hseq) h'
  | succ m ih =>
    intro listed a w Dr Ar ps S hm inv hun hDr hAr hb hs hmono hps h
    rw [show m + 1 + T.length = (m + T.length) + 1 by omega]
    have hsub : (Dr ++ Ar).Sublist (D ++ A) := hDr.append hAr
    have hpw : List.Pairwise (Pr ops) (Dr ++ Ar) := hD.sublist hsub
    have hmem : ∀ i ∈ Dr ++ Ar, mselfB ops T i = true := fun i hi => hS i (hsub.subset hi)
    have hlt : ∀ i ∈ Dr ++ Ar, i < ops.size ∧ i ∉ T := fun i hi => by
      have := hmem i hi
      simp only [mselfB, Bool.and_eq_true, decide_eq_true_eq] at this
      exact this.1.2
    have hunl : ∀ i ∈ Dr ++ Ar, listed.getD i true = false := fun i hi => (hun i (hlt i hi).1 (hlt i hi).2).2 (List.mem_append.1 hi)
    -- what is ready does not wait for what has not come up
    have hready : ∀ i ∈ Region.ready .any ops listed, ∀ k, listed.getD k true = false → Region.waitsFor .any ops i k = false := fun i hi k hk => by
      cases hw : Region.waitsFor .any ops i k with
      | false => rfl
      | true =>
        obtain ⟨oj, hoj, e, he, hbd, hon⟩ := Region.waitsFor_spec hw
        obtain ⟨_, o, ho, hall⟩ := mem_ready.1 hi
        obtain rfl : o = oj := Option.some.inj (ho.symm.trans hoj)
        have := hall e he hbd
        rw [hon, getD_both hk] at this
        cases this
    constructor
    · -- the first of what is left is ready
      intro hnil
      exfalso
      obtain ⟨x, xs, hx⟩ : ∃ x xs, Dr ++ Ar = x :: xs := by
        cases hl : Dr ++ Ar with
        | nil => have := congrArg List.length hl; simp only [List.length_append, List.length_nil] at this; omega
        | cons x xs => exact ⟨x, xs, rfl⟩
      have hxm : x ∈ Dr ++ Ar := by rw [hx]; exact List.mem_cons_self ..
      have hsx := hmem x hxm
      have hself := hsx
      simp only [mselfB, Bool.and_eq_true, decide_eq_true_eq, Bool.not_eq_true'] at hsx
      obtain ⟨⟨hs1, hs2⟩, hs3⟩ := hsx
      cases ho : ops[x]? with
      | none => rw [ho] at hs3; cases hs3
      | some o =>
        rw [ho] at hs3
        have : x ∈ Region.ready .any ops listed := mem_ready.2 ⟨hunl x hxm, o, ho, fun e he hbd => by
          have h1 := (Array.all_eq_true'.1 hs3) e he
          simp only [hbd, Bool.not_true, Bool.false_or, decide_eq_true_eq] at h1
          cases hl : listed.getD e.on false with
          | true => rfl
          | false =>
            have hl' : listed.getD e.on true = false := getD_in (by rw [inv.size]; exact h1.1) hl
            have hin := (hun e.on h1.1 h1.2).1 hl'
            have hin' : e.on ∈ x :: xs := by rw [← hx]; exact List.mem_append.2 hin
            have hwt := waits_of ho he hbd rfl
            rcases List.mem_cons.1 hin' with hh | hh
            · rw [hh, hs1] at hwt; cases hwt
            · rw [hx] at hpw
              have := (List.pairwise_cons.1 hpw).1 _ hh
              rw [this.2.1] at hwt; cases hwt⟩
        rw [hnil] at this
        cases this
    · intro i hi
      have hiu := (mem_ready.1 hi).1
      obtain ⟨_, o, ho, _⟩ := mem_ready.1 hi
      have hisz : i < ops.size := (Array.getElem?_eq_some_iff.1 ho).1
      by_cases hin : i ∉ T
      · have hset : ∀ (X Y : List Nat), (∀ j, j < ops.size → j ∉ T → j ≠ i → ((j ∈ Dr ∨ j ∈ Ar) ↔ (j ∈ X ∨ j ∈ Y))) → i ∉ X → i ∉ Y → ∀ j, j < ops.size → j ∉ T → ((listed.setIfInBounds i true).getD j true = false ↔ j ∈ X ∨ j ∈ Y) := fun X Y hXY hX hY j hj hjT => by
          by_cases hji : i = j
          · subst hji
            have h1 : (listed.setIfInBounds i true).getD i true = true := by
              have : i < listed.size := by rw [inv.size]; exact hisz
              simp [this]
            rw [h1]
            simp [hX, hY]
          · rw [getD_set_ne true hji, hun j hj hjT, hXY j hj hjT (fun h => hji h.symm)]
        rcases (hun i hisz hin).1 hiu with hmD | hmA
        · obtain ⟨l1, l2, rfl⟩ := List.append_of_mem hmD
          have hpwD : List.Pairwise (Pr ops) (l1 ++ i :: l2) := hpw.sublist (List.sublist_append_left ..)
          have hap : ∀ k ∈ l1, apB ops k i = true := fun k hk => by
            have h1 := (List.pairwise_append.1 hpwD).2.2 k hk i (List.mem_cons_self ..)
            rcases h1.1 with h2 | h2
            · rw [hready i hi k (hunl k (List.mem_append_left _ (List.mem_append_left _ hk)))] at h2; cases h2
            · exact h2
          obtain ⟨o', v, ho', hy, hr⟩ := loose_pick hsel l1 a hap h
          obtain rfl : o' = o := Option.some.inj (ho'.symm.trans ho)
          have hsl : (l1 ++ l2).Sublist (l1 ++ i :: l2) := (List.Sublist.refl l1).append (List.sublist_cons_self ..)
          have hni : i ∉ l1 ++ l2 ∧ i ∉ Ar := by
            have h1 := List.pairwise_append.1 hpwD
            refine ⟨fun hm' => ?_, fun hm' => ?_⟩
            · rcases List.mem_append.1 hm' with hm' | hm'
              · exact (h1.2.2 i hm' i (List.mem_cons_self ..)).2.2 rfl
              · exact ((List.pairwise_cons.1 h1.2.1).1 i hm').2.2 rfl
            · exact ((List.pairwise_append.1 hpw).2.2 i (by simp) i hm').2.2 rfl
          refine hy.op ho hb (fun w' hw' => ih _ _ w' (l1 ++ l2) Ar ps S (by simp at hm ⊢; omega) (inv.set hi hin) (hset _ _ (fun j _ _ hji => by simp [hji]) hni.1 hni.2) (hsl.trans hDr) hAr
            (ext_trans hb hw') (hmono _ _ hw' hs) hmono hps hr)
        · obtain ⟨l1, l2, rfl⟩ := List.append_of_mem hmA
          have hpw2 := List.pairwise_append.1 hpw
          have hapD : ∀ k ∈ Dr, apB ops k i = true := fun k hk => by
            have h1 := hpw2.2.2 k hk i (by simp)
            rcases h1.1 with h2 | h2
            · rw [hready i hi k (hunl k (List.mem_append_left _ hk))] at h2; cases h2
            · exact h2
          have hapA : ∀ k ∈ l1, apB ops k i = true := fun k hk => by
            have h1 := (List.pairwise_append.1 hpw2.2.1).2.2 k hk i (List.mem_cons_self ..)
            rcases h1.1 with h2 | h2
            · rw [hready i hi k (hunl k (by simp [hk]))] at h2; cases h2
            · exact h2
          have hpickA := fun (a' : Act) (hh : wpFresh P ops W (fun a'' S' => ∀ w', Ext W w' → S' w' → wpSeq P ops Q T a'' w') (l1 ++ i :: l2) a' ps S) => fresh_pick hsel hF l1 a' ps S hapA hh
          obtain ⟨a1, hf1, he1⟩ := loose_out hsel ho Dr a hapD h
          obtain ⟨o', mk, obj, ho', hg, hfr1, _⟩ := hpickA a1 hf1
          obtain rfl : o' = o := Option.some.inj (ho'.symm.trans ho)
          have hfr : freshAt P W o' a mk obj := fun p => by rw [← he1]; exact hfr1 p
          obtain ⟨p0, hp0⟩ := regrown_of_below hb
          have hrun := hfr p0
          rw [← hp0] at hrun
          have hfresh : w.heap.size ∉ ps := fun hm' => by have := hps w hs _ hm'; omega
          have hW0 : W.heap.size ≤ w.heap.size := ext_size hb
          have hb1 : Ext w (w.alloc obj) := ext_alloc (ext_refl _) _
          unfold wpOp
          simp only [ho]
          rw [if_pos (by simp [Region.wanted, hg])]
          refine .inl ?_
          unfold Oper.wp
          rw [hrun]
          simp only [Oper.upon]
          have hsl : (l1 ++ l2).Sublist (l1 ++ i :: l2) := (List.Sublist.refl l1).append (List.sublist_cons_self ..)
          have hni : i ∉ Dr ∧ i ∉ l1 ++ l2 := by
            have h1 := List.pairwise_append.1 hpw2.2.1
            refine ⟨fun hm' => (hpw2.2.2 i hm' i (by simp)).2.2 rfl, fun hm' => ?_⟩
            rcases List.mem_append.1 hm' with hm' | hm'
            · exact (h1.2.2 i hm' i (List.mem_cons_self ..)).2.2 rfl
            · exact ((List.pairwise_cons.1 h1.2.1).1 i hm').2.2 rfl
          refine ih _ _ (w.alloc obj) Dr (l1 ++ l2) (w.heap.size :: ps) (fun w' => S w' ∧ w'.heap[w.heap.size]? = some obj) (by simp at hm ⊢; omega) (inv.set hi hin) (hset _ _ (fun j _ _ hji => by simp [hji]) hni.1 hni.2) hDr (hsl.trans hAr)
            (ext_trans hb hb1) ⟨hmono _ _ hb1 hs, heap_alloc_new w obj⟩ (fun w1 w2 h12 h1 => ⟨hmono _ _ h12 h1.1, by
              rw [ext_block h12 (Array.getElem?_eq_some_iff.1 h1.2).1]; exact h1.2⟩) (fun w1 h1 p hp => ?_) ?_
          · rcases List.mem_cons.1 hp with rfl | hp
            · exact (Array.getElem?_eq_some_iff.1 h1.2).1
            · exact hps w1 h1.1 p hp
          · refine wpLoose_mono ?_ _ _ (loose_put hsel ho (mk w.heap.size) Dr a hapD h)
            rintro a' ⟨a0, rfl, he0, hf0⟩
            obtain ⟨o2, mk2, obj2, ho2, _, hfr2, hr2⟩ := hpickA a0 hf0
            obtain rfl : o2 = o' := Option.some.inj (ho2.symm.trans ho)
            obtain ⟨e1, e2⟩ := freshAt_unique he0 hfr hfr2
            have := hr2 w.heap.size hW0 hfresh
            rw [e2 _ hW0, e1] at this
            exact this
      · -- the tail waits
        exfalso
        have hin' : i ∈ T := by simpa using hin
        refine mtail_waits hsink hchain inv (L := Dr ++ Ar) hsub ?_ hunl (fun j hj hjT hju => ?_) i hin' hi
        · intro h0
          have := congrArg List.length h0
          simp only [List.length_append, List.length_nil] at this
          omega
        · exact List.mem_append.2 ((hun j hj hjT).1 hju)


def preB (ops : Array Oper) : List Nat → Array Bool → Bool
  | [], _ => true
  | i :: l, listed => (Region.ready .any ops listed).contains i && Region.free .any ops listed i && preB ops l (listed.setIfInBounds i true)
def listedOf : List Nat → Array Bool → Array Bool
  | [], listed => listed
  | i :: l, listed => listedOf l (listed.setIfInBounds i true)
def invB (ops : Array Oper) (listed : Array Bool) : Bool :=
  (List.range ops.size).all fun j => !listed.getD j false || (match ops[j]? with | some o => o.after.all (fun e => !Region.binds .any e || listed.getD e.on false) | none => true)
def mixB (ops : Array Oper) (Pre D A T : List Nat) : Bool :=
  Region.noSelect ops && preB ops Pre (Array.replicate ops.size false) && pairsB ops (D ++ A) && (D ++ A).all (mselfB ops T) && (match T with | [] => true | t :: _ => sinkL ops t (D ++ A)) && chainL ops T && seqL ops T (mcanon ops T) &&
  invB ops (listedOf Pre (Array.replicate ops.size false)) && decide ((listedOf Pre (Array.replicate ops.size false)).size = ops.size) && T.all (fun t => !(listedOf Pre (Array.replicate ops.size false)).getD t true || decide (ops.size ≤ t)) &&
  (List.range ops.size).all (fun i => T.contains i || ((listedOf Pre (Array.replicate ops.size false)).getD i true == !((D ++ A).contains i))) && decide (Pre.length + (D.length + A.length) + T.length = ops.size)

def wpPre (P : Program) (ops : Array Oper) (Fin : Act → Prop) : List Nat → Act → Prop
  | [], a => Fin a
  | i :: l, a => ∃ o v, ops[i]? = some o ∧ Yields P ops o v a ∧ wpPre P ops Fin l (a.put o.dst v)
theorem wpPre_nil {Fin : Act → Prop} {a : Act} (h : Fin a) : wpPre P ops Fin [] a := h
theorem wpPre_step {Fin : Act → Prop} {i : Nat} {l : List Nat} {a : Act} {o : Oper} (ho : ops[i]? = some o)
    (h : ∀ K : Act → Prop, (∀ a, wpPre P ops Fin l a → K a) → if Region.wanted o (yielded ops a.tmps) then ∃ v, (∀ w, (execOp a.eval o).run P w = .ok (.value v) w) ∧ K (a.put o.dst v) else K (a.put o.dst undef)) : wpPre P ops Fin (i :: l) a := by
  have h' := h _ (fun _ h => h)
  by_cases hw : Region.wanted o (yielded ops a.tmps) = true
  · rw [if_pos hw] at h'
    obtain ⟨v, h1, h2⟩ := h'
    exact ⟨o, v, ho, .inl ⟨hw, h1⟩, h2⟩
  · rw [if_neg hw] at h'
    exact ⟨o, undef, ho, .inr ⟨by simpa using hw, rfl⟩, h'⟩

theorem wpAny_pre {Q : Exit → Act → World → Prop} (hs : Region.noSelect ops = true) (hQ : ∀ c a d v w, Q (.panic c) (Act.put a d v) w → Q (.panic c) a w) {w : World} {fuel : Nat} : ∀ (Pre : List Nat) (listed : Array Bool) (a : Act), preB ops Pre listed = true →
    wpPre P ops (fun a' => wpAny P .any ops Q fuel (listedOf Pre listed) a' w) Pre a → wpAny P .any ops Q (Pre.length + fuel) listed a w
  | [], _, _, _, h => by rw [List.length_nil, Nat.zero_add]; exact h
  | i :: l, listed, a, hB, ⟨o, v, ho, hy, hr⟩ => by
    simp only [preB, Bool.and_eq_true] at hB
    rw [List.length_cons, show l.length + 1 + fuel = (l.length + fuel) + 1 by omega]
    exact wpAny_take ho hs hB.1.2 hB.1.1 (fun c a w h => hQ c a _ _ w h) hy (wpAny_pre hs hQ l _ _ hB.2 hr)

theorem wpPre_mono {Fin Fin' : Act → Prop} (h : ∀ a, Fin a → Fin' a) : ∀ (l : List Nat) (a : Act), wpPre P ops Fin l a → wpPre P ops Fin' l a
  | [], _, h' => h _ h'
  | _ :: l, _, ⟨o, v, ho, hy, hr⟩ => ⟨o, v, ho, hy, wpPre_mono h l _ hr⟩

/-- **A region that draws its order, walked once: the general form.** -/
theorem wp_region_mix {id : Nat} {l : List Oper} {Q : Exit → Act → World → Prop} {a : Act} (Pre D A T : List Nat) (hm : P.follows .mixedOrders = true) (hB : mixB l.toArray Pre D A T = true)
    (hQ : ∀ c a d v w, Q (.panic c) (Act.put a d v) w → Q (.panic c) a w)
    (h : wpPre P l.toArray (fun a0 => wpLoose P l.toArray W (fun a' => wpFresh P l.toArray W (fun a'' S' => ∀ w', Ext W w' → S' w' → wpSeq P l.toArray Q T a'' w') A a' [] (fun _ => True)) D a0) Pre a) :
    (Code.region id l.toArray true).wp P Q a W := by
  simp only [mixB, Bool.and_eq_true, decide_eq_true_eq] at hB
  obtain ⟨⟨⟨⟨⟨⟨⟨⟨⟨⟨⟨hsel, hpre⟩, hp⟩, hs⟩, hk⟩, hch⟩, hsq⟩, hinv⟩, hsz⟩, htl⟩, hcov⟩, hlen⟩ := hB
  have hself := List.all_eq_true.1 hs
  refine wp_region_any hm ?_
  suffices key : wpAny P .any l.toArray Q (Pre.length + ((D.length + A.length) + T.length)) (Array.replicate l.toArray.size false) a { W with drawn := W.drawn + 1 } by
    rw [show Pre.length + ((D.length + A.length) + T.length) = l.toArray.size by omega] at key
    exact key
  refine wpAny_pre (fuel := (D.length + A.length) + T.length) hsel hQ Pre _ a hpre (wpPre_mono ?_ _ _ h)
  intro a0 h0
  refine mcore (P := P) (ops := l.toArray) (W := W) (Q := Q) (D := D) (A := A) (T := T) (Region.noSelect_spec hsel) (pairsB_spec _ hp) hself (fun t r e => by subst e; exact hk) hch hsq
    (D.length + A.length) _ a0 W.drew D A [] (fun _ => True) rfl ⟨hsz, fun j oj hj hl e he hb => ?_, fun t ht hts => ?_⟩ (fun i hi hiT => ?_)
    (List.Sublist.refl _) (List.Sublist.refl _) (ext_drew (ext_refl _)) trivial (fun _ _ _ _ => trivial) (fun _ _ p hp => by cases hp) h0
  · have h1 := List.all_eq_true.1 hinv j (List.mem_range.2 (Array.getElem?_eq_some_iff.1 hj).1)
    simp only [hl, hj, Bool.not_true, Bool.false_or] at h1
    have h2 := (Array.all_eq_true'.1 h1) e he
    simpa [hb] using h2
  · have h1 := List.all_eq_true.1 htl t ht
    simp only [Bool.or_eq_true, Bool.not_eq_true', decide_eq_true_eq] at h1
    rcases h1 with h1 | h1
    · exact h1
    · omega
  · have h1 := List.all_eq_true.1 hcov i (List.mem_range.2 hi)
    simp only [Bool.or_eq_true, beq_iff_eq] at h1
    rcases h1 with h1 | h1
    · exact absurd (by simpa using h1) hiT
    · rw [h1]
      constructor
      · intro hh
        have h2 : (D ++ A).contains i = true := by simpa only [Bool.not_eq_false'] using hh
        simp only [List.contains_eq_mem, decide_eq_true_eq, List.mem_append] at h2
        exact h2
      · intro hh
        have h2 : (D ++ A).contains i = true := by
          simp only [List.contains_eq_mem, decide_eq_true_eq, List.mem_append]
          exact hh
        rw [h2]; rfl
end
end Go.Proofs.Ytiabmdboacpmcaa
/- A region that draws its order, walked once: operations of which only a relation is known (what they make may hang on the order). -/
namespace Go.Proofs.Ytiabmdboacpmcaa
open Go Go.RowKit Go.Sort

section
variable {P : Program} {ops : Array Oper} {W : World}

def runsAt (P : Program) (o : Oper) (a : Act) (R : Value → World → Prop) (w : World) : Prop :=
  match (execOp a.eval o).run P w with
  | .ok (.value u) w' => R u w'
  | .ok .skip w' => R undef w'
  | .ok (.enter f args) w' => Calls P f args w' fun e w'' => ∃ v, e = .returned v ∧ R v w''
  | .ok (.row row args) w' => Rows P row args w' R
  | _ => False
theorem runsAt_same {o : Oper} {a a' : Act} {R : Value → World → Prop} {w : World} (he : execOp a'.eval o = execOp a.eval o) (h : runsAt P o a R w) : runsAt P o a' R w := by
  unfold runsAt at *
  rw [he]
  exact h
theorem runsAt_op {i : Nat} {o : Oper} {a : Act} {w : World} {R : Value → World → Prop} {K : Act → World → Prop} {Q : Exit → Act → World → Prop} (hi : ops[i]? = some o) (hg : o.guard = none) (h : runsAt P o a R w)
    (hK : ∀ v w', R v w' → K (a.put o.dst v) w') : wpOp P ops Q i K a w := by
  unfold wpOp
  simp only [hi]
  rw [if_pos (by simp [Region.wanted, hg])]
  refine .inl ?_
  unfold Oper.wp
  unfold runsAt at h
  generalize (execOp a.eval o).run P w = r at *
  cases r with
  | ok n w' =>
    cases n <;> simp only at h <;> simp only [Oper.upon]
    case value u => exact hK _ _ h
    case skip => exact hK _ _ h
    case enter f args =>
      refine h.mono ?_
      rintro e w'' ⟨v, rfl, hv⟩
      exact hK _ _ hv
    case row row args => exact h.mono (fun v w'' hv => hK _ _ hv)
  | halt x w' => simp only at h

/-- the law of a list serves: what it leaves in the slot is read -/
theorem runsAt_list {o : Oper} {a : Act} {w : World} {R : Value → World → Prop} {d : Nat} (hg : o.guard = none) (hd : o.dst = some d) (hd2 : d < a.tmps.size)
    (h : wpList P ops (fun e a' w' => e = .normal ∧ a'.defers = a.defers ∧ R (a'.tmps.getD d undef) w') [o] a w) : runsAt P o a R w := by
  have hput : ∀ v, (a.put o.dst v).tmps.getD d undef = v := fun v => by
    simp [Act.put, hd, hd2]
  unfold wpList at h
  rw [if_pos (by simp [Region.wanted, hg])] at h
  rcases h with h | ⟨_, _, _, h, _⟩
  · unfold Oper.wp at h
    unfold runsAt
    generalize (execOp a.eval o).run P w = r at *
    cases r with
    | ok n w' =>
      cases n <;> simp only [Oper.upon] at h <;> try (exact h.elim)
      case value u =>
        have := h.2.2
        rw [hput] at this
        exact this
      case skip =>
        have := h.2.2
        rw [hput] at this
        exact this
      case enter f args =>
        refine h.mono ?_
        intro e w'' he
        cases e with
        | returned v =>
          have := he.2.2
          rw [hput] at this
          exact ⟨v, rfl, this⟩
        | panicked c => cases he.1
        | outgrown => obtain ⟨_, _, h, _⟩ := he; cases h
      case defer d' =>
        have := congrArg List.length h.2.1
        simp [Act.put] at this
        split at this <;> simp at this
      case row row args =>
        refine h.mono ?_
        intro v w'' hv
        have := hv.2.2
        rw [hput] at this
        exact this
    | halt x w' => cases x <;> simp only [Oper.upon] at h <;> first | exact h.elim | (cases h.1)
  · cases h

abbrev Rel := Value → World → Prop
def wpGen (P : Program) (ops : Array Oper) (W : World) (Fin : Act → (World → Prop) → Prop) : List (Nat × Rel) → Act → List (Nat × (World → Prop)) → Prop
  | [], a, S => Fin a (fun w => ∀ x ∈ S, x.2 w)
  | (i, R) :: l, a, S => ∃ o, ops[i]? = some o ∧ o.guard = none ∧ (∀ v w w', Ext w w' → R v w → R v w') ∧
      (∀ w, Ext W w → (∀ x ∈ S, Region.waitsFor .any ops i x.1 = true → x.2 w) → runsAt P o a (fun v w' => Ext w w' ∧ R v w') w) ∧
      ∀ v, wpGen P ops W Fin l (a.put o.dst v) ((i, R v) :: S)

theorem wpGen_mem {Fin : Act → (World → Prop) → Prop} (hF : ∀ a S S', (∀ w, S' w → S w) → Fin a S → Fin a S') : ∀ (l : List (Nat × Rel)) (a : Act) (S S' : List (Nat × (World → Prop))), (∀ x ∈ S, x ∈ S') → wpGen P ops W Fin l a S → wpGen P ops W Fin l a S'
  | [], a, S, S', hS, h => hF a _ _ (fun _ hw x hx => hw x (hS x hx)) h
  | (i, R) :: l, a, S, S', hS, ⟨o, ho, hg, hm, hr, h⟩ => ⟨o, ho, hg, hm, fun w hw hx => hr w hw (fun x h1 h2 => hx x (hS x h1) h2), fun v => wpGen_mem hF l _ _ _ (fun x hx => by
      rcases List.mem_cons.1 hx with rfl | hx
      · exact List.mem_cons_self ..
      · exact List.mem_cons_of_mem _ (hS x hx)) (h v)⟩

theorem gen_pick (hsel : ∀ (j : Nat) (o : Oper) cs b, ops[j]? = some o → o.op ≠ .select cs b) {Fin : Act → (World → Prop) → Prop} (hF : ∀ a S S', (∀ w, S' w → S w) → Fin a S → Fin a S') {i : Nat} {R : Rel} {l2 : List (Nat × Rel)} :
    ∀ (l1 : List (Nat × Rel)) (a : Act) (S : List (Nat × (World → Prop))), (∀ k ∈ l1, apB ops k.1 i = true ∧ Region.waitsFor .any ops i k.1 = false) → wpGen P ops W Fin (l1 ++ (i, R) :: l2) a S →
    ∃ o, ops[i]? = some o ∧ o.guard = none ∧ (∀ v w w', Ext w w' → R v w → R v w') ∧
      (∀ w, Ext W w → (∀ x ∈ S, Region.waitsFor .any ops i x.1 = true → x.2 w) → runsAt P o a (fun v w' => Ext w w' ∧ R v w') w) ∧
      ∀ v, wpGen P ops W Fin (l1 ++ l2) (a.put o.dst v) ((i, R v) :: S)
  | [], _, _, _, h => h
  | (k, Rk) :: l1, a, S, hap, ⟨ok, hk, hgk, hmk, hrk, hr⟩ => by
    have ihv := fun (v : Value) => gen_pick hsel hF l1 _ _ (fun x hx => hap x (List.mem_cons_of_mem _ hx)) (hr v)
    obtain ⟨o, hi, hg, hm, hrun, _⟩ := ihv undef
    have hapk := hap (k, Rk) (List.mem_cons_self ..)
    obtain ⟨h1, h2, h3⟩ := Oper.apart_spec (apB_spec hk hi hapk.1)
    have he : ∀ u, execOp (a.put ok.dst u).eval o = execOp a.eval o := fun u => execOp_put o (fun cs b => hsel i o cs b hi) a _ _ h1
    refine ⟨o, hi, hg, hm, fun w hw hx => ?_, fun v => ⟨ok, hk, hgk, hmk, fun w hw hx => ?_, fun vk => ?_⟩⟩
    · refine runsAt_same (he undef).symm (hrun w hw (fun x hx1 hx2 => ?_))
      rcases List.mem_cons.1 hx1 with rfl | hx1
      · rw [hapk.2] at hx2; cases hx2
      · exact hx x hx1 hx2
    · exact runsAt_same (execOp_put ok (fun cs b => hsel k ok cs b hk) a _ _ h3) (hrk w hw (fun x hx1 hx2 => hx x (List.mem_cons_of_mem _ hx1) hx2))
    · obtain ⟨o', hi', _, _, _, hr'⟩ := ihv vk
      obtain rfl : o' = o := Option.some.inj (hi'.symm.trans hi)
      have := hr' v
      rw [Act.put_comm a vk v h2] at this
      refine wpGen_mem hF _ _ _ _ (fun x hx => ?_) this
      rcases List.mem_cons.1 hx with rfl | hx
      · exact List.mem_cons_of_mem _ (List.mem_cons_self ..)
      · rcases List.mem_cons.1 hx with rfl | hx
        · exact List.mem_cons_self ..
        · exact List.mem_cons_of_mem _ (List.mem_cons_of_mem _ hx)

theorem gcore {Q : Exit → Act → World → Prop} {D T : List Nat} {G : List (Nat × Rel)} (hsel : ∀ (j : Nat) (o : Oper) cs b, ops[j]? = some o → o.op ≠ .select cs b)
    (hD : List.Pairwise (Pr ops) (D ++ G.map Prod.fst)) (hS : ∀ i ∈ D ++ G.map Prod.fst, mselfB ops T i = true) (hsink : ∀ t l, T = t :: l → sinkL ops t (D ++ G.map Prod.fst) = true) (hchain : chainL ops T = true) (hseq : seqL ops T (mcanon ops T) = true) :
    ∀ (m : Nat) (listed : Array Bool) (a : Act) (w : World) (Dr : List Nat) (Gr : List (Nat × Rel)) (S : List (Nat × (World → Prop))), Dr.length + Gr.length = m → MInv ops T listed →
      (∀ i, i < ops.size → i ∉ T → (listed.getD i true = false ↔ i ∈ Dr ∨ i ∈ Gr.map Prod.fst)) → Dr.Sublist D → Gr.Sublist G → Ext W w → (∀ x ∈ S, x.2 w) →
      (∀ x ∈ S, ∀ w w', Ext w w' → x.2 w → x.2 w') →
      wpLoose P ops W (fun a' => wpGen P ops W (fun a'' S' => ∀ w', Ext W w' → S' w' → wpSeq P ops Q T a'' w') Gr a' S) Dr a →
      wpAny P .any ops Q (m + T.length) listed a w := by
  have hF : ∀ (a : Act) (S S' : World → Prop), (∀ w, S' w → S w) → (∀ w', Ext W w' → S w' → wpSeq P ops Q T a w') → (∀ w', Ext W w' → S' w' → wpSeq P ops Q T a w') :=
    fun a S S' h h1 w' hw hs => h1 w' hw (h _ hs)
  intro m
  induction m with
  | zero =>
    intro listed a w Dr Gr S hm inv hun hDr hGr hb hs hmono h
    obtain rfl : Dr = [] := List.eq_nil_of_length_eq_zero (by omega)
    obtain rfl : Gr = [] := List.eq_nil_of_length_eq_zero (by omega)
    have h' : wpSeq P ops Q T a w := h w hb hs
    have hc : listed = mcanon ops T := by
      apply Array.ext_getElem?
      intro i
      by_cases hi : i < ops.size
      · have hl : i < listed.size := by rw [inv.size]; exact hi
        by_cases hin : i ∈ T
        · have h1 := inv.tail i hin hi
          simp [mcanon, hi, hin, hl] at h1 ⊢
          exact h1
        · have h1 := hun i hi hin
          simp only [List.map_nil, List.not_mem_nil, or_self, iff_false, Bool.not_eq_false] at h1
          simp [mcanon, hi, hin, hl] at h1 ⊢
          exact h1
      · rw [Array.getElem?_eq_none (by rw [inv.size]; omega), Array.getElem?_eq_none (by simp [mcanon]; omega)]
    rw [Nat.zero_add]
    exact wpAny_of_seqL T listed a w (by rw [hc]; exact hseq) h'
  | succ m ih =>
    intro listed a w Dr Gr S hm inv hun hDr hGr hb hs hmono h
    rw [show m + 1 + T.length = (m + T.length) + 1 by omega]
    obtain ⟨Ar, hAr⟩ : ∃ Ar, Gr.map Prod.fst = Ar := ⟨_, rfl⟩
    obtain ⟨A, hA⟩ : ∃ A, G.map Prod.fst = A := ⟨_, rfl⟩
    have hlenA : Ar.length = Gr.length := by rw [← hAr, List.length_map]
    rw [hA] at hD hS hsink
    rw [hAr] at hun
    have hArs : Ar.Sublist A := by rw [← hAr, ← hA]; exact hGr.map _
    have hsub : (Dr ++ Ar).Sublist (D ++ A) := hDr.append hArs
    have hpw : List.Pairwise (Pr ops) (Dr ++ Ar) := hD.sublist hsub
    have hmem : ∀ i ∈ Dr ++ Ar, mselfB ops T i = true := fun i hi => hS i (hsub.subset hi)
    have hlt : ∀ i ∈ Dr ++ Ar, i < ops.size ∧ i ∉ T := fun i hi => by
      have := hmem i hi
      simp only [mselfB, Bool.and_eq_true, decide_eq_true_eq] at this
      exact this.1.2
    have hunl : ∀ i ∈ Dr ++ Ar, listed.getD i true = false := fun i hi => (hun i (hlt i hi).1 (hlt i hi).2).2 (List.mem_append.1 hi)
    -- what is ready does not wait for what has not come up
    have hready : ∀ i ∈ Region.ready .any ops listed, ∀ k, listed.getD k true = false → Region.waitsFor .any ops i k = false := fun i hi k hk => by
      cases hw : Region.waitsFor .any ops i k with
      | false => rfl
      | true =>
        obtain ⟨oj, hoj, e, he, hbd, hon⟩ := Region.waitsFor_spec hw
        obtain ⟨_, o, ho, hall⟩ := mem_ready.1 hi
        obtain rfl : o = oj := Option.some.inj (ho.symm.trans hoj)
        have := hall e he hbd
        rw [hon, getD_both hk] at this
        cases this
    constructor
    · -- the first of what is left is ready
      intro hnil
      exfalso
      obtain ⟨x, xs, hx⟩ : ∃ x xs, Dr ++ Ar = x :: xs := by
        cases hl : Dr ++ Ar with
        | nil => have := congrArg List.length hl; simp only [List.length_append, List.length_nil] at this; omega
        | cons x xs => exact ⟨x, xs, rfl⟩
      have hxm : x ∈ Dr ++ Ar := by rw [hx]; exact List.mem_cons_self ..
      have hsx := hmem x hxm
      have hself := hsx
      simp only [mselfB, Bool.and_eq_true, decide_eq_true_eq, Bool.not_eq_true'] at hsx
      obtain ⟨⟨hs1, hs2⟩, hs3⟩ := hsx
      cases ho : ops[x]? with
      | none => rw [ho] at hs3; cases hs3
      | some o =>
        rw [ho] at hs3
        have : x ∈ Region.ready .any ops listed := mem_ready.2 ⟨hunl x hxm, o, ho, fun e he hbd => by
          have h1 := (Array.all_eq_true'.1 hs3) e he
          simp only [hbd, Bool.not_true, Bool.false_or, decide_eq_true_eq] at h1
          cases hl : listed.getD e.on false with
          | true => rfl
          | false =>
            have hl' : listed.getD e.on true = false := getD_in (by rw [inv.size]; exact h1.1) hl
            have hin := (hun e.on h1.1 h1.2).1 hl'
            have hin' : e.on ∈ x :: xs := by rw [← hx]; exact List.mem_append.2 hin
            have hwt := waits_of ho he hbd rfl
            rcases List.mem_cons.1 hin' with hh | hh
            · rw [hh, hs1] at hwt; cases hwt
            · rw [hx] at hpw
              have := (List.pairwise_cons.1 hpw).1 _ hh
              rw [this.2.1] at hwt; cases hwt⟩
        rw [hnil] at this
        cases this
    · intro i hi
      have hiu := (mem_ready.1 hi).1
      obtain ⟨_, o, ho, _⟩ := mem_ready.1 hi
      have hisz : i < ops.size := (Array.getElem?_eq_some_iff.1 ho).1
      by_cases hin : i ∉ T
      · have hset : ∀ (X Y : List Nat), (∀ j, j < ops.size → j ∉ T → j ≠ i → ((j ∈ Dr ∨ j ∈ Ar) ↔ (j ∈ X ∨ j ∈ Y))) → i ∉ X → i ∉ Y → ∀ j, j < ops.size → j ∉ T → ((listed.setIfInBounds i true).getD j true = false ↔ j ∈ X ∨ j ∈ Y) := fun X Y hXY hX hY j hj hjT => by
          by_cases hji : i = j
          · subst hji
            have h1 : (listed.setIfInBounds i true).getD i true = true := by
              have : i < listed.size := by rw [inv.size]; exact hisz
              simp [this]
            rw [h1]
            simp [hX, hY]
          · rw [getD_set_ne true hji, hun j hj hjT, hXY j hj hjT (fun h => hji h.symm)]
        rcases (hun i hisz hin).1 hiu with hmD | hmA
        · obtain ⟨l1, l2, rfl⟩ := List.append_of_mem hmD
          have hpwD : List.Pairwise (Pr ops) (l1 ++ i :: l2) := hpw.sublist (List.sublist_append_left ..)
          have hap : ∀ k ∈ l1, apB ops k i = true := fun k hk => by
            have h1 := (List.pairwise_append.1 hpwD).2.2 k hk i (List.mem_cons_self ..)
            rcases h1.1 with h2 | h2
            · rw [hready i hi k (hunl k (List.mem_append_left _ (List.mem_append_left _ hk)))] at h2; cases h2
            · exact h2
          obtain ⟨o', v, ho', hy, hr⟩ := loose_pick hsel l1 a hap h
          obtain rfl : o' = o := Option.some.inj (ho'.symm.trans ho)
          have hsl : (l1 ++ l2).Sublist (l1 ++ i :: l2) := (List.Sublist.refl l1).append (List.sublist_cons_self ..)
          have hni : i ∉ l1 ++ l2 ∧ i ∉ Ar := by
            have h1 := List.pairwise_append.1 hpwD
            refine ⟨fun hm' => ?_, fun hm' => ?_⟩
            · rcases List.mem_append.1 hm' with hm' | hm'
              · exact (h1.2.2 i hm' i (List.mem_cons_self ..)).2.2 rfl
              · exact ((List.pairwise_cons.1 h1.2.1).1 i hm').2.2 rfl
            · exact ((List.pairwise_append.1 hpw).2.2 i (by simp) i hm').2.2 rfl
          refine hy.op ho hb (fun w' hw' => ih _ _ w' (l1 ++ l2) Gr S (by simp at hm ⊢; omega) (inv.set hi hin) (by rw [hAr]; exact hset _ _ (fun j _ _ hji => by simp [hji]) hni.1 hni.2) (hsl.trans hDr) hGr
            (ext_trans hb hw') (fun x hx => hmono x hx _ _ hw' (hs x hx)) hmono hr)
        · rw [← hAr] at hmA
          obtain ⟨⟨i', R⟩, hmG, hii⟩ := List.mem_map.1 hmA
          simp only at hii
          subst hii
          obtain ⟨l1, l2, rfl⟩ := List.append_of_mem hmG
          have hAr' : Ar = l1.map Prod.fst ++ i' :: l2.map Prod.fst := by rw [← hAr]; simp
          have hpw2 := List.pairwise_append.1 hpw
          have hapD : ∀ k ∈ Dr, apB ops k i' = true := fun k hk => by
            have h1 := hpw2.2.2 k hk i' (by rw [hAr']; simp)
            rcases h1.1 with h2 | h2
            · rw [hready i' hi k (hunl k (List.mem_append_left _ hk))] at h2; cases h2
            · exact h2
          have hapG : ∀ k ∈ l1, apB ops k.1 i' = true ∧ Region.waitsFor .any ops i' k.1 = false := fun k hk => by
            have hkm : k.1 ∈ l1.map Prod.fst := List.mem_map.2 ⟨k, hk, rfl⟩
            have hw := hready i' hi k.1 (hunl k.1 (List.mem_append_right _ (by rw [hAr']; exact List.mem_append_left _ hkm)))
            have h3 := hpw2.2.1
            rw [hAr'] at h3
            have h1 := (List.pairwise_append.1 h3).2.2 k.1 hkm i' (List.mem_cons_self ..)
            rcases h1.1 with h2 | h2
            · rw [hw] at h2; cases h2
            · exact ⟨h2, hw⟩
          have hpickG := fun (a' : Act) (hh : wpGen P ops W (fun a'' S' => ∀ w', Ext W w' → S' w' → wpSeq P ops Q T a'' w') (l1 ++ (i', R) :: l2) a' S) => gen_pick hsel hF l1 a' S hapG hh
          obtain ⟨a1, hf1, he1⟩ := loose_out hsel ho Dr a hapD h
          obtain ⟨o', ho', hg, hmR, hrun1, _⟩ := hpickG a1 hf1
          obtain rfl : o' = o := Option.some.inj (ho'.symm.trans ho)
          have hrun := runsAt_same he1.symm (hrun1 w hb (fun x hx _ => hs x hx))
          have hsl : (l1 ++ l2).Sublist (l1 ++ (i', R) :: l2) := (List.Sublist.refl l1).append (List.sublist_cons_self ..)
          have hni : i' ∉ Dr ∧ i' ∉ (l1 ++ l2).map Prod.fst := by
            have h3 := hpw2.2.1
            rw [hAr'] at h3
            have h1 := List.pairwise_append.1 h3
            refine ⟨fun hm' => (hpw2.2.2 i' hm' i' (by rw [hAr']; simp)).2.2 rfl, fun hm' => ?_⟩
            rw [List.map_append] at hm'
            rcases List.mem_append.1 hm' with hm' | hm'
            · exact (h1.2.2 i' hm' i' (List.mem_cons_self ..)).2.2 rfl
            · exact ((List.pairwise_cons.1 h1.2.1).1 i' hm').2.2 rfl
          refine runsAt_op ho hg hrun (fun v w' hv => ?_)
          refine ih _ _ w' Dr (l1 ++ l2) ((i', R v) :: S) (by simp at hm ⊢; omega) (inv.set hi hin) (hset _ _ (fun j _ _ hji => by rw [hAr']; simp [hji]) hni.1 hni.2) hDr (hsl.trans hGr)
            (ext_trans hb hv.1) (fun x hx => ?_) (fun x hx => ?_) ?_
          · rcases List.mem_cons.1 hx with rfl | hx
            · exact hv.2
            · exact hmono x hx _ _ hv.1 (hs x hx)
          · rcases List.mem_cons.1 hx with rfl | hx
            · exact fun w1 w2 h12 h1 => hmR _ _ _ h12 h1
            · exact hmono x hx
          · refine wpLoose_mono ?_ _ _ (loose_put hsel ho v Dr a hapD h)
            rintro a' ⟨a0, rfl, he0, hf0⟩
            obtain ⟨o2, ho2, _, _, _, hr2⟩ := hpickG a0 hf0
            obtain rfl : o2 = o' := Option.some.inj (ho2.symm.trans ho)
            exact hr2 v
      · -- the tail waits
        exfalso
        have hin' : i ∈ T := by simpa using hin
        refine mtail_waits hsink hchain inv (L := Dr ++ Ar) hsub ?_ hunl (fun j hj hjT hju => ?_) i hin' hi
        · intro h0
          have := congrArg List.length h0
          simp only [List.length_append, List.length_nil] at this
          omega
        · exact List.mem_append.2 ((hun j hj hjT).1 hju)



/-- **A region that draws its order, walked once, where of some operations only a relation is known.** -/
theorem wp_region_gen {id : Nat} {l : List Oper} {Q : Exit → Act → World → Prop} {a : Act} (Pre D : List Nat) (G : List (Nat × Rel)) (T A : List Nat) (hA : G.map Prod.fst = A) (hm : P.follows .mixedOrders = true) (hB : mixB l.toArray Pre D A T = true)
    (hQ : ∀ c a d v w, Q (.panic c) (Act.put a d v) w → Q (.panic c) a w)
    (h : wpPre P l.toArray (fun a0 => wpLoose P l.toArray W (fun a' => wpGen P l.toArray W (fun a'' S' => ∀ w', Ext W w' → S' w' → wpSeq P l.toArray Q T a'' w') G a' []) D a0) Pre a) :
    (Code.region id l.toArray true).wp P Q a W := by
  subst hA
  simp only [mixB, Bool.and_eq_true, decide_eq_true_eq] at hB
  obtain ⟨⟨⟨⟨⟨⟨⟨⟨⟨⟨⟨hsel, hpre⟩, hp⟩, hs⟩, hk⟩, hch⟩, hsq⟩, hinv⟩, hsz⟩, htl⟩, hcov⟩, hlen⟩ := hB
  have hself := List.all_eq_true.1 hs
  refine wp_region_any hm ?_
  suffices key : wpAny P .any l.toArray Q (Pre.length + ((D.length + (G.map Prod.fst).length) + T.length)) (Array.replicate l.toArray.size false) a { W with drawn := W.drawn + 1 } by
    rw [show Pre.length + ((D.length + (G.map Prod.fst).length) + T.length) = l.toArray.size by omega] at key
    exact key
  refine wpAny_pre (fuel := (D.length + (G.map Prod.fst).length) + T.length) hsel hQ Pre _ a hpre (wpPre_mono ?_ _ _ h)
  intro a0 h0
  refine gcore (P := P) (ops := l.toArray) (W := W) (Q := Q) (D := D) (G := G) (T := T) (Region.noSelect_spec hsel) (pairsB_spec _ hp) hself (fun t r e => by subst e; exact hk) hch hsq
    (D.length + (G.map Prod.fst).length) _ a0 W.drew D G [] (by rw [List.length_map]) ⟨hsz, fun j oj hj hl e he hb => ?_, fun t ht hts => ?_⟩ (fun i hi hiT => ?_)
    (List.Sublist.refl _) (List.Sublist.refl _) (ext_drew (ext_refl _)) (fun _ hx => by cases hx) (fun _ hx => by cases hx) h0
  · have h1 := List.all_eq_true.1 hinv j (List.mem_range.2 (Array.getElem?_eq_some_iff.1 hj).1)
    simp only [hl, hj, Bool.not_true, Bool.false_or] at h1
    have h2 := (Array.all_eq_true'.1 h1) e he
    simpa [hb] using h2
  · have h1 := List.all_eq_true.1 htl t ht
    simp only [Bool.or_eq_true, Bool.not_eq_true', decide_eq_true_eq] at h1
    rcases h1 with h1 | h1
    · exact h1
    · omega
  · have h1 := List.all_eq_true.1 hcov i (List.mem_range.2 hi)
    simp only [Bool.or_eq_true, beq_iff_eq] at h1
    rcases h1 with h1 | h1
    · exact absurd (by simpa using h1) hiT
    · rw [h1]
      constructor
      · intro hh
        have h2 : (D ++ G.map Prod.fst).contains i = true := by simpa only [Bool.not_eq_false'] using hh
        simp only [List.contains_eq_mem, decide_eq_true_eq, List.mem_append] at h2
        exact h2
      · intro hh
        have h2 : (D ++ G.map Prod.fst).contains i = true := by
          simp only [List.contains_eq_mem, decide_eq_true_eq, List.mem_append]
          exact hh
        rw [h2]; rfl

theorem wpGen_nil {Fin : Act → (World → Prop) → Prop} {a : Act} {S : List (Nat × (World → Prop))} (h : Fin a (fun w => ∀ x ∈ S, x.2 w)) : wpGen P ops W Fin [] a S := h
theorem wpGen_step {Fin : Act → (World → Prop) → Prop} {i : Nat} {R : Rel} {l : List (Nat × Rel)} {a : Act} {S : List (Nat × (World → Prop))} {o : Oper} (ho : ops[i]? = some o) (hg : o.guard = none)
    (hm : ∀ v w w', Ext w w' → R v w → R v w') (hr : ∀ w, Ext W w → (∀ x ∈ S, Region.waitsFor .any ops i x.1 = true → x.2 w) → runsAt P o a (fun v w' => Ext w w' ∧ R v w') w)
    (h : ∀ v, wpGen P ops W Fin l (a.put o.dst v) ((i, R v) :: S)) : wpGen P ops W Fin ((i, R) :: l) a S := ⟨o, ho, hg, hm, hr, h⟩

end
end Go.Proofs.Ytiabmdboacpmcaa
