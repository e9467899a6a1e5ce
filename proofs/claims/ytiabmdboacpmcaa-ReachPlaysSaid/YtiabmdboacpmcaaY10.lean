/- Texts joined: Kk Da Db Ha. -/
import Derived.DeepKeys4
import Derived.WideKeyPair
import Derived.Test.YtiabmdboacpmcaaY09
/- Keys of three ints (arrays, structs), of two; ints. -/
namespace Go.Proofs.Ytiabmdboacpmcaa
open Go Go.RowKit Go.Sort Go.WideMaps Go.Maps

structure Key where
  a : Int
  b : Int
  c : Int
deriving DecidableEq
structure Two where
  a : Int
  b : Int
deriving DecidableEq
def k3 (x : Key) : Value := .agg #[.int .i64 x.a, .int .i64 x.b, .int .i64 x.c]
def k2 (x : Two) : Value := .agg #[.int .i64 x.a, .int .i64 x.b]
def okI (a : Int) : Prop := (Lit.int .i64 a).wf = true
def ok3 (x : Key) : Prop := okI x.a ∧ okI x.b ∧ okI x.c
def ok2 (x : Two) : Prop := okI x.a ∧ okI x.b
theorem okI_iff {a : Int} : okI a ↔ -9223372036854775808 ≤ a ∧ a ≤ 9223372036854775807 := by
  show (decide (IntKind.i64.min ≤ a) && decide (a ≤ IntKind.i64.max)) = true ↔ _
  rw [show IntKind.i64.min = -9223372036854775808 from rfl, show IntKind.i64.max = 9223372036854775807 from rfl, Bool.and_eq_true, decide_eq_true_iff, decide_eq_true_iff]
theorem k3_inj {x y : Key} (h : k3 x = k3 y) : x = y := by
  cases x; cases y
  simp [k3] at h
  simp [h]
theorem k2_inj {x y : Two} (h : k2 x = k2 y) : x = y := by
  cases x; cases y
  simp [k2] at h
  simp [h]
section
variable {P : Program} {k e : TypeId}
theorem lits_int {d : Nat} (he : P.underlying e = some (.int .i64)) {c : Value} {ls : List Lit} (h : P.keyLits (d + 1) e [c] = some ls) : ∃ a, c = .int .i64 a ∧ okI a := by
  unfold Program.keyLits at h
  simp only [he] at h
  split at h <;> simp_all
  obtain ⟨⟨h1, h2⟩, _⟩ := h
  rename_i hq _
  first | (rw [← hq] at h2; exact h2) | (subst hq; exact h2)
theorem lits_mk {d : Nat} (he : P.underlying e = some (.int .i64)) {a : Int} (h : okI a) : P.keyLits (d + 1) e [.int .i64 a] = some [.int .i64 a] := by
  unfold Program.keyLits
  simp only [he]
  simp only [true_and]
  exact if_pos h
theorem three_of {xs : Array Value} (h : xs.toList.length = 3) : ∃ a b c, xs = #[a, b, c] := by
  match he : xs.toList, h with
  | [a, b, c], _ => exact ⟨a, b, c, by rw [← Array.toArray_toList (xs := xs), he]⟩
theorem two_of {xs : Array Value} (h : xs.toList.length = 2) : ∃ a b, xs = #[a, b] := by
  match he : xs.toList, h with
  | [a, b], _ => exact ⟨a, b, by rw [← Array.toArray_toList (xs := xs), he]⟩
/-- arrays of three ints -/
theorem arr3_key (hu : P.underlying k = some (.array 3 e)) (he : P.underlying e = some (.int .i64)) (h3 : P.cellsOf k = 3) (h1 : P.cellsOf e = 1) (hkt : P.keyType k = true) (hsz : ∃ m, P.types.size = m + 1) {x : Key} (hx : ok3 x) :
    keyOf P k (k3 x) = some (.string (keyBytes [.int .i64 x.a, .int .i64 x.b, .int .i64 x.c])) := by
  obtain ⟨m, hm⟩ := hsz
  unfold keyOf k3
  simp only [hu]
  rw [if_pos (by simp [hkt, Value.formed, hu, h3]), hm]
  unfold Program.keyLits
  simp only [hu, Value.cells]
  rw [if_pos (by rw [h3]; rfl), show List.range 3 = [0, 1, 2] from rfl, List.mapM_cons, List.mapM_cons, List.mapM_cons, List.mapM_nil]
  simp [h1, lits_mk he hx.1, lits_mk he hx.2.1, lits_mk he hx.2.2]
theorem arr3_inv (hu : P.underlying k = some (.array 3 e)) (he : P.underlying e = some (.int .i64)) (h3 : P.cellsOf k = 3) (h1 : P.cellsOf e = 1) (hsz : ∃ m, P.types.size = m + 1) {v : Value} {l : Lit} (h : keyOf P k v = some l) : ∃ x, ok3 x ∧ v = k3 x := by
  obtain ⟨xs, L, rfl, hl, rfl⟩ := keyOf_top (by simp [hu]) h
  obtain ⟨m, hm⟩ := hsz
  rw [hm] at hl
  unfold Program.keyLits at hl
  simp only [hu] at hl
  split at hl
  · rename_i hlen
    rw [h3] at hlen
    obtain ⟨a, b, c, rfl⟩ := three_of hlen
    rw [show List.range 3 = [0, 1, 2] from rfl, List.mapM_cons, List.mapM_cons, List.mapM_cons, List.mapM_nil] at hl
    simp only [h1, bind, Option.map_eq_some_iff, Option.bind_eq_some_iff, pure] at hl
    obtain ⟨_, ⟨_, g0, _, ⟨_, g1, _, ⟨_, g2, _⟩, _⟩, _⟩, _⟩ := hl
    obtain ⟨a, rfl, w0⟩ := lits_int he g0
    obtain ⟨b, rfl, w1⟩ := lits_int he g1
    obtain ⟨c, rfl, w2⟩ := lits_int he g2
    exact ⟨⟨a, b, c⟩, ⟨w0, w1, w2⟩, rfl⟩
  · cases hl
def ktArr3 (hu : P.underlying k = some (.array 3 e)) (he : P.underlying e = some (.int .i64)) (h3 : P.cellsOf k = 3) (h1 : P.cellsOf e = 1) (hkt : P.keyType k = true) (hsz : ∃ m, P.types.size = m + 1) (law : Keyed P k) : KT P k Key where
  val := k3
  ok := ok3
  lit x := .string (keyBytes [.int .i64 x.a, .int .i64 x.b, .int .i64 x.c])
  law := law
  key _ hx := arr3_key hu he h3 h1 hkt hsz hx
  inv _ _ h := arr3_inv hu he h3 h1 hsz h
  inj _ _ h := k3_inj h
/-- structs of three ints, of two -/
theorem str3_key {f0 f1 f2 : Field} (hu : P.underlying k = some (.struct #[f0, f1, f2])) (e0 : P.underlying f0.type = some (.int .i64)) (e1 : P.underlying f1.type = some (.int .i64)) (e2 : P.underlying f2.type = some (.int .i64)) (o0 : f0.offset = 0) (o1 : f1.offset = 1) (o2 : f2.offset = 2)
    (hn : #[f0, f1, f2].all (·.name != "_") = true) (h3 : P.cellsOf k = 3) (c0 : P.cellsOf f0.type = 1) (c1 : P.cellsOf f1.type = 1) (c2 : P.cellsOf f2.type = 1) (hkt : P.keyType k = true) (hsz : ∃ m, P.types.size = m + 1) {x : Key} (hx : ok3 x) :
    keyOf P k (k3 x) = some (.string (keyBytes [.int .i64 x.a, .int .i64 x.b, .int .i64 x.c])) := by
  obtain ⟨m, hm⟩ := hsz
  unfold keyOf k3
  simp only [hu]
  rw [if_pos (by simp [hkt, Value.formed, hu, h3]), hm]
  unfold Program.keyLits
  simp only [hu, Value.cells]
  rw [if_pos ⟨by rw [h3]; rfl, hn⟩]
  simp [o0, o1, o2, c0, c1, c2, lits_mk e0 hx.1, lits_mk e1 hx.2.1, lits_mk e2 hx.2.2]
theorem str3_inv {f0 f1 f2 : Field} (hu : P.underlying k = some (.struct #[f0, f1, f2])) (e0 : P.underlying f0.type = some (.int .i64)) (e1 : P.underlying f1.type = some (.int .i64)) (e2 : P.underlying f2.type = some (.int .i64)) (o0 : f0.offset = 0) (o1 : f1.offset = 1) (o2 : f2.offset = 2)
    (h3 : P.cellsOf k = 3) (c0 : P.cellsOf f0.type = 1) (c1 : P.cellsOf f1.type = 1) (c2 : P.cellsOf f2.type = 1) (hsz : ∃ m, P.types.size = m + 1) {v : Value} {l : Lit} (h : keyOf P k v = some l) : ∃ x, ok3 x ∧ v = k3 x := by
  obtain ⟨xs, L, rfl, hl, rfl⟩ := keyOf_top (by simp [hu]) h
  obtain ⟨m, hm⟩ := hsz
  rw [hm] at hl
  unfold Program.keyLits at hl
  simp only [hu] at hl
  split at hl
  · rename_i hlen
    rw [h3] at hlen
    obtain ⟨a, b, c, rfl⟩ := three_of hlen.1
    simp only [List.mapM_cons, List.mapM_nil, o0, o1, o2, c0, c1, c2, bind, Option.map_eq_some_iff, Option.bind_eq_some_iff, pure] at hl
    obtain ⟨_, ⟨_, g0, _, ⟨_, g1, _, ⟨_, g2, _⟩, _⟩, _⟩, _⟩ := hl
    obtain ⟨a, rfl, w0⟩ := lits_int e0 g0
    obtain ⟨b, rfl, w1⟩ := lits_int e1 g1
    obtain ⟨c, rfl, w2⟩ := lits_int e2 g2
    exact ⟨⟨a, b, c⟩, ⟨w0, w1, w2⟩, rfl⟩
  · cases hl
def ktStr3 {f0 f1 f2 : Field} (hu : P.underlying k = some (.struct #[f0, f1, f2])) (e0 : P.underlying f0.type = some (.int .i64)) (e1 : P.underlying f1.type = some (.int .i64)) (e2 : P.underlying f2.type = some (.int .i64)) (o0 : f0.offset = 0) (o1 : f1.offset = 1) (o2 : f2.offset = 2)
    (hn : #[f0, f1, f2].all (·.name != "_") = true) (h3 : P.cellsOf k = 3) (c0 : P.cellsOf f0.type = 1) (c1 : P.cellsOf f1.type = 1) (c2 : P.cellsOf f2.type = 1) (hkt : P.keyType k = true) (hsz : ∃ m, P.types.size = m + 1) (law : Keyed P k) : KT P k Key where
  val := k3
  ok := ok3
  lit x := .string (keyBytes [.int .i64 x.a, .int .i64 x.b, .int .i64 x.c])
  law := law
  key _ hx := str3_key hu e0 e1 e2 o0 o1 o2 hn h3 c0 c1 c2 hkt hsz hx
  inv _ _ h := str3_inv hu e0 e1 e2 o0 o1 o2 h3 c0 c1 c2 hsz h
  inj _ _ h := k3_inj h
theorem str2_key {f0 f1 : Field} (hu : P.underlying k = some (.struct #[f0, f1])) (e0 : P.underlying f0.type = some (.int .i64)) (e1 : P.underlying f1.type = some (.int .i64)) (o0 : f0.offset = 0) (o1 : f1.offset = 1)
    (hn : #[f0, f1].all (·.name != "_") = true) (h3 : P.cellsOf k = 2) (c0 : P.cellsOf f0.type = 1) (c1 : P.cellsOf f1.type = 1) (hkt : P.keyType k = true) (hsz : ∃ m, P.types.size = m + 1) {x : Two} (hx : ok2 x) :
    keyOf P k (k2 x) = some (.string (keyBytes [.int .i64 x.a, .int .i64 x.b])) := by
  obtain ⟨m, hm⟩ := hsz
  unfold keyOf k2
  simp only [hu]
  rw [if_pos (by simp [hkt, Value.formed, hu, h3]), hm]
  unfold Program.keyLits
  simp only [hu, Value.cells]
  rw [if_pos ⟨by rw [h3]; rfl, hn⟩]
  simp [o0, o1, c0, c1, lits_mk e0 hx.1, lits_mk e1 hx.2]
theorem str2_inv {f0 f1 : Field} (hu : P.underlying k = some (.struct #[f0, f1])) (e0 : P.underlying f0.type = some (.int .i64)) (e1 : P.underlying f1.type = some (.int .i64)) (o0 : f0.offset = 0) (o1 : f1.offset = 1)
    (h3 : P.cellsOf k = 2) (c0 : P.cellsOf f0.type = 1) (c1 : P.cellsOf f1.type = 1) (hsz : ∃ m, P.types.size = m + 1) {v : Value} {l : Lit} (h : keyOf P k v = some l) : ∃ x, ok2 x ∧ v = k2 x := by
  obtain ⟨xs, L, rfl, hl, rfl⟩ := keyOf_top (by simp [hu]) h
  obtain ⟨m, hm⟩ := hsz
  rw [hm] at hl
  unfold Program.keyLits at hl
  simp only [hu] at hl
  split at hl
  · rename_i hlen
    rw [h3] at hlen
    obtain ⟨a, b, rfl⟩ := two_of hlen.1
    simp only [List.mapM_cons, List.mapM_nil, o0, o1, c0, c1, bind, Option.map_eq_some_iff, Option.bind_eq_some_iff, pure] at hl
    obtain ⟨_, ⟨_, g0, _, ⟨_, g1, _⟩, _⟩, _⟩ := hl
    obtain ⟨a, rfl, w0⟩ := lits_int e0 g0
    obtain ⟨b, rfl, w1⟩ := lits_int e1 g1
    exact ⟨⟨a, b⟩, ⟨w0, w1⟩, rfl⟩
  · cases hl
def ktStr2 {f0 f1 : Field} (hu : P.underlying k = some (.struct #[f0, f1])) (e0 : P.underlying f0.type = some (.int .i64)) (e1 : P.underlying f1.type = some (.int .i64)) (o0 : f0.offset = 0) (o1 : f1.offset = 1)
    (hn : #[f0, f1].all (·.name != "_") = true) (h3 : P.cellsOf k = 2) (c0 : P.cellsOf f0.type = 1) (c1 : P.cellsOf f1.type = 1) (hkt : P.keyType k = true) (hsz : ∃ m, P.types.size = m + 1) (law : Keyed P k) : KT P k Two where
  val := k2
  ok := ok2
  lit x := .string (keyBytes [.int .i64 x.a, .int .i64 x.b])
  law := law
  key _ hx := str2_key hu e0 e1 o0 o1 hn h3 c0 c1 hkt hsz hx
  inv _ _ h := str2_inv hu e0 e1 o0 o1 h3 c0 c1 hsz h
  inj _ _ h := k2_inj h
def ktInt (hk : P.underlying k = some (.int .i64)) : KT P k Int where
  val x := .int .i64 x
  ok := okI
  lit x := .int .i64 x
  law := int_keyed hk
  key _ hx := keyOf_int_mk hk hx
  inv v l h := by
    obtain ⟨x, h1, _, h3⟩ := Maps.keyOf_int_inv hk h
    exact ⟨x, h3, h1⟩
  inj _ _ h := by simpa using h
/-- elements: ints, bools, maps -/
def etInt (he : P.underlying e = some (.int .i64)) (hz : ∀ w, (zeroValue e).run P w = .ok (.int .i64 0) w) : ET P e Int where
  val x := .int .i64 x
  dat x := .lit (.int .i64 x)
  ok := okI
  rd := plainElem P e
  get _ hc := ⟨[], plainElem_int he hc⟩
  inv v y h := by
    obtain ⟨a, h1, h2, h3⟩ := plainElem_int_inv he h
    exact ⟨a, h3, h1, by rw [h2]⟩
  inj _ _ h := by simpa using h
  zero := 0
  zok := by rw [okI_iff]; omega
  zrun := hz
theorem plainElem_bool_inv {he : P.underlying e = some .bool} {v : Value} {z : DataW Unit × List MemPlace} (h : plainElem P e v = some z) : ∃ a, v = .bool a ∧ z = (.lit (.bool a), []) := by
  unfold plainElem at h
  rw [he] at h
  cases v <;> simp at h
  exact ⟨_, rfl, h.symm⟩
def etBool (he : P.underlying e = some .bool) (hz : ∀ w, (zeroValue e).run P w = .ok (.bool false) w) : ET P e Bool where
  val x := .bool x
  dat x := .lit (.bool x)
  ok _ := True
  rd := plainElem P e
  get c _ := ⟨[], plainElem_bool he c⟩
  inv v y h := by
    obtain ⟨a, h1, h2⟩ := plainElem_bool_inv (he := he) h
    exact ⟨a, trivial, h1, by rw [h2]⟩
  inj _ _ h := by simpa using h
  zero := false
  zok := trivial
  zrun := hz
def rdMap (v : Value) : Option (DataW Unit × List MemPlace) :=
  match v with
  | .map none => some (.lit (.bool false), [])
  | .map (some b) => some (.lit (.int .i64 (b : Int)), [])
  | _ => none
def datMap : Option Nat → DataW Unit
  | none => .lit (.bool false)
  | some b => .lit (.int .i64 (b : Int))
theorem rdMap_inv {v : Value} {y : DataW Unit × List MemPlace} (h : rdMap v = some y) : ∃ c, v = .map c ∧ y.1 = datMap c := by
  unfold rdMap at h
  split at h
  · cases h; exact ⟨none, rfl, rfl⟩
  · cases h; exact ⟨some _, rfl, rfl⟩
  · cases h
def etMap (hz : ∀ w, (zeroValue e).run P w = .ok (.map none) w) : ET P e (Option Nat) where
  val c := .map c
  dat := datMap
  ok _ := True
  rd := rdMap
  get c _ := by cases c <;> exact ⟨[], rfl⟩
  inv v y h := by
    obtain ⟨c, h1, h2⟩ := rdMap_inv h
    exact ⟨c, trivial, h1, h2⟩
  inj c d h := by
    cases c <;> cases d <;> simp [datMap] at h
    · rfl
    · congr 1; omega
  zero := none
  zok := trivial
  zrun := hz
end
end Go.Proofs.Ytiabmdboacpmcaa
/- Plain: places that are come to, and for how long; what is closed is all. -/
namespace Go.Proofs.Ytiabmdboacpmcaa
open Go

/-- a graph's edges (subject, predicate, object): until when each lasts -/
abbrev Gr3 := Key → Option Int
/-- how long each place lasts: root, node, state -/
abbrev Bst := Key → Option Int
/-- a machine as it leads: from a state, by a predicate, back or not, to a state; where it begins -/
structure Auto where
  step : Int → Int → Bool → Int → Prop
  begin' : Int → Prop
def isNode (E : Gr3) (n : Int) : Prop := ∃ k u, E k = some u ∧ (k.a = n ∨ k.c = n)
/-- where an edge leads from a place -/
def Succ (A : Auto) (x k y : Key) : Prop := y.a = x.a ∧ (k.a = x.b ∧ y.b = k.c ∧ A.step x.c k.b false y.c ∨ k.c = x.b ∧ y.b = k.a ∧ A.step x.c k.b true y.c)
def forever : Int := 4611686018427387904
/-- a place is come to along edges that last until a time at least -/
inductive Der (A : Auto) (E : Gr3) : Key → Int → Prop
  | base {n s t : Int} : isNode E n → A.begin' s → t ≤ forever → Der A E ⟨n, n, s⟩ t
  | step {x k y : Key} {t u : Int} : Der A E x t → E k = some u → t ≤ u → Succ A x k y → Der A E y t
def leO (a b : Option Int) : Prop := ∀ v, a = some v → ∃ v', b = some v' ∧ v ≤ v'
def geO (b : Option Int) (t : Int) : Prop := ∃ v, b = some v ∧ t ≤ v
theorem leO_refl (a : Option Int) : leO a a := fun v h => ⟨v, h, Int.le_refl _⟩
theorem leO_trans {a b c : Option Int} (h : leO a b) (k : leO b c) : leO a c := fun v hv => by
  obtain ⟨v', h1, h2⟩ := h v hv
  obtain ⟨v'', h3, h4⟩ := k v' h1
  exact ⟨v'', h3, Int.le_trans h2 h4⟩
theorem geO_le {a b : Option Int} {t : Int} (h : geO a t) (k : leO a b) : geO b t := by
  obtain ⟨v, h1, h2⟩ := h
  obtain ⟨v', h3, h4⟩ := k v h1
  exact ⟨v', h3, Int.le_trans h2 h4⟩
theorem geO_mono {b : Option Int} {t t' : Int} (h : geO b t) (ht : t' ≤ t) : geO b t' := by
  obtain ⟨v, h1, h2⟩ := h
  exact ⟨v, h1, Int.le_trans ht h2⟩
def leB (f g : Bst) : Prop := ∀ x, leO (f x) (g x)
theorem leB_refl (f : Bst) : leB f f := fun _ => leO_refl _
theorem leB_trans {f g h : Bst} (a : leB f g) (b : leB g h) : leB f h := fun x => leO_trans (a x) (b x)
/-- all that is come to from a place lasts as long -/
def ClosedAt (A : Auto) (E : Gr3) (f : Bst) (y : Key) : Prop := ∀ v k u z, f y = some v → E k = some u → Succ A y k z → geO (f z) (min v u)
theorem closedAt_le {A : Auto} {E : Gr3} {f g : Bst} {y : Key} (h : ClosedAt A E f y) (hl : leB f g) (he : g y = f y) : ClosedAt A E g y := fun v k u z hv hk hs => geO_le (h v k u z (by rw [← he]; exact hv) hk hs) (hl z)
def Sound (A : Auto) (E : Gr3) (f : Bst) : Prop := ∀ x v, f x = some v → Der A E x v
/-- all is as it must be -/
structure FixB (A : Auto) (E : Gr3) (f : Bst) : Prop where
  sound : Sound A E f
  base : ∀ n s, isNode E n → A.begin' s → f ⟨n, n, s⟩ = some forever
  closed : ∀ y, ClosedAt A E f y
theorem der_le {A : Auto} {E : Gr3} {x : Key} {t t' : Int} (h : Der A E x t) (ht : t' ≤ t) : Der A E x t' := by
  induction h with
  | base hn hs hf => exact .base hn hs (Int.le_trans ht hf)
  | step _ hk hu hs ih => exact .step (ih ht) hk (Int.le_trans ht hu) hs
theorem der_top {A : Auto} {E : Gr3} {x : Key} {t : Int} (h : Der A E x t) : t ≤ forever := by
  induction h with
  | base _ _ hf => exact hf
  | step _ _ _ _ ih => exact ih
theorem der_nodes {A : Auto} {E : Gr3} {x : Key} {t : Int} (h : Der A E x t) : isNode E x.a ∧ isNode E x.b := by
  induction h with
  | base hn _ _ => exact ⟨hn, hn⟩
  | step _ hk _ hs ih =>
    rw [hs.1]
    refine ⟨ih.1, ?_⟩
    rcases hs.2 with ⟨_, h2, _⟩ | ⟨_, h2, _⟩
    · rw [h2]; exact ⟨_, _, hk, .inr rfl⟩
    · rw [h2]; exact ⟨_, _, hk, .inl rfl⟩
theorem fix_complete {A : Auto} {E : Gr3} {f : Bst} (h : FixB A E f) {x : Key} {t : Int} (hd : Der A E x t) : geO (f x) t := by
  induction hd with
  | base hn hs hf => exact ⟨forever, h.base _ _ hn hs, hf⟩
  | step _ hk hu hs ih =>
    obtain ⟨v, h1, h2⟩ := ih
    exact geO_mono (h.closed _ v _ _ _ h1 hk hs) (by omega)
theorem fix_value {A : Auto} {E : Gr3} {f : Bst} (h : FixB A E f) {x : Key} {v : Int} : f x = some v ↔ Der A E x v ∧ ∀ t, Der A E x t → t ≤ v := by
  constructor
  · intro hv
    refine ⟨h.sound x v hv, fun t ht => ?_⟩
    obtain ⟨v', h1, h2⟩ := fix_complete h ht
    rw [hv] at h1
    cases h1
    exact h2
  · rintro ⟨h1, h2⟩
    obtain ⟨v', h3, h4⟩ := fix_complete h h1
    have := h2 v' (h.sound x v' h3)
    rw [h3]
    congr 1
    omega
/-- edges that last longer, or more of them -/
def leG (E E' : Gr3) : Prop := ∀ k, leO (E k) (E' k)
theorem node_mono {E E' : Gr3} (h : leG E E') {n : Int} (hn : isNode E n) : isNode E' n := by
  obtain ⟨k, u, h1, h2⟩ := hn
  obtain ⟨u', h3, _⟩ := h k u h1
  exact ⟨k, u', h3, h2⟩
theorem der_mono {A : Auto} {E E' : Gr3} (h : leG E E') {x : Key} {t : Int} (hd : Der A E x t) : Der A E' x t := by
  induction hd with
  | base hn hs hf => exact .base (node_mono h hn) hs hf
  | step _ hk hu hs ih =>
    obtain ⟨u', h3, h4⟩ := h _ _ hk
    exact .step ih h3 (Int.le_trans hu h4) hs
/-- what a visit of a place leaves -/
structure Visit (A : Auto) (E : Gr3) (top : Int) (f g : Bst) : Prop where
  le : leB f g
  chg : ∀ y, g y ≠ f y → ClosedAt A E g y ∧ ∀ v, g y = some v → v ≤ top
  sound : Sound A E f → Sound A E g
theorem visit_refl (A : Auto) (E : Gr3) (top : Int) (f : Bst) : Visit A E top f f := ⟨leB_refl f, fun _y h => absurd rfl h, fun h => h⟩
theorem visit_trans {A : Auto} {E : Gr3} {top : Int} {f g h : Bst} (a : Visit A E top f g) (b : Visit A E top g h) : Visit A E top f h := by
  refine ⟨leB_trans a.le b.le, fun y hy => ?_, fun hs => b.sound (a.sound hs)⟩
  by_cases e : h y = g y
  · have h1 := a.chg y (by rw [← e]; exact hy)
    exact ⟨closedAt_le h1.1 b.le e, fun v hv => h1.2 v (by rw [← e]; exact hv)⟩
  · exact b.chg y e
theorem visit_top {A : Auto} {E : Gr3} {top top' : Int} {f g : Bst} (h : Visit A E top f g) (ht : top ≤ top') : Visit A E top' f g := ⟨h.le, fun y hy => ⟨(h.chg y hy).1, fun v hv => Int.le_trans ((h.chg y hy).2 v hv) ht⟩, h.sound⟩
/-- what lasts to the top stays as it is -/
theorem visit_keep {A : Auto} {E : Gr3} {top : Int} {f g : Bst} (h : Visit A E top f g) {x : Key} {v : Int} (hx : f x = some v) (hv : top ≤ v) : g x = some v := by
  by_cases e : g x = f x
  · rw [e, hx]
  · obtain ⟨v', h1, h2⟩ := h.le x v hx
    have := (h.chg x e).2 v' h1
    rw [h1]
    congr 1
    omega
/-- a place is visited: it is laid, and then all edges are gone along -/
theorem visit_place {A : Auto} {E : Gr3} {f g : Bst} {x : Key} {u : Int} (hlow : ∀ v, f x = some v → v < u) (hd : Sound A E f → Der A E x u) (h : Visit A E u (fun y => if y = x then some u else f y) g)
    (hall : ∀ k w z, E k = some w → Succ A x k z → geO (g z) (min u w)) : Visit A E u f g ∧ g x = some u := by
  have hgx : g x = some u := visit_keep h (by simp) (Int.le_refl _)
  refine ⟨⟨fun y => ?_, fun y hy => ?_, fun hs => h.sound (fun y v hv => ?_)⟩, hgx⟩
  · by_cases e : y = x
    · subst e
      intro v hv
      exact ⟨u, hgx, Int.le_of_lt (hlow v hv)⟩
    · have := h.le y
      simp only [if_neg e] at this
      exact this
  · by_cases e : y = x
    · subst e
      refine ⟨fun v k w z hv hk hs => ?_, fun v hv => ?_⟩
      · rw [hgx] at hv
        cases hv
        exact hall k w z hk hs
      · rw [hgx] at hv
        cases hv
        exact Int.le_refl _
    · exact h.chg y (by simp only [if_neg e]; exact hy)
  · by_cases e : y = x
    · subst e
      simp only [if_pos] at hv
      cases hv
      exact hd hs
    · simp only [if_neg e] at hv
      exact hs y v hv
end Go.Proofs.Ytiabmdboacpmcaa
/- Plain: an edge more; edges fewer. -/
namespace Go.Proofs.Ytiabmdboacpmcaa
open Go

def setG (E : Gr3) (k : Key) (u : Int) : Gr3 := fun k' => if k' = k then some u else E k'
theorem setG_same (E : Gr3) (k : Key) (u : Int) : setG E k u k = some u := if_pos rfl
theorem setG_other {E : Gr3} {k k' : Key} {u : Int} (h : k' ≠ k) : setG E k u k' = E k' := if_neg h
theorem setG_le {E : Gr3} {k : Key} {u : Int} (h : ∀ v, E k = some v → v ≤ u) : leG E (setG E k u) := fun k' v hv => by
  by_cases e : k' = k
  · subst e; exact ⟨u, setG_same .., h v hv⟩
  · exact ⟨v, by rw [setG_other e]; exact hv, Int.le_refl _⟩
theorem node_setG {E : Gr3} {k : Key} {u n : Int} (h : isNode (setG E k u) n) : isNode E n ∨ n = k.a ∨ n = k.c := by
  obtain ⟨k', u', h1, h2⟩ := h
  by_cases e : k' = k
  · subst e; exact .inr (h2.imp (fun e => e.symm) (fun e => e.symm))
  · rw [setG_other e] at h1; exact .inl ⟨k', u', h1, h2⟩
theorem node_set (E : Gr3) (k : Key) (u : Int) : isNode (setG E k u) k.a ∧ isNode (setG E k u) k.c := ⟨⟨k, u, setG_same .., .inl rfl⟩, ⟨k, u, setG_same .., .inr rfl⟩⟩
theorem sound_mono {A : Auto} {E E' : Gr3} {f : Bst} (h : leG E E') (hs : Sound A E f) : Sound A E' f := fun x v hv => der_mono h (hs x v hv)
/-- the places of a new node -/
structure NewN (A : Auto) (E : Gr3) (f0 f1 : Bst) (k : Key) : Prop where
  old : ∀ y v, f1 y = some v → f0 y = some v ∨ (¬ isNode E y.b ∧ v = forever)
  le : leB f0 f1
  base : ∀ n s, n = k.a ∨ n = k.c → A.begin' s → f1 ⟨n, n, s⟩ = some forever
/-- an edge more, or one that lasts longer -/
theorem add_fix {A : Auto} {E : Gr3} {f0 f1 g : Bst} {k : Key} {u : Int} (h : FixB A E f0) (hk : ∀ v, E k = some v → v ≤ u) (hn : NewN A E f0 f1 k) (hle : leB f1 g) (hch : ∀ y, g y ≠ f1 y → ClosedAt A (setG E k u) g y)
    (hal : ∀ y v z, f1 y = some v → Succ A y k z → geO (g z) (min v u)) (hs : Sound A (setG E k u) g) : FixB A (setG E k u) g := by
  refine ⟨hs, fun n s hnn hb => ?_, fun y => ?_⟩
  · have hf1 : f1 ⟨n, n, s⟩ = some forever := by
      rcases node_setG hnn with h1 | h1
      · obtain ⟨v', h3, h4⟩ := hn.le _ _ (h.base n s h1 hb)
        rcases hn.old _ _ h3 with h5 | h5
        · have := der_top (h.sound _ _ h5)
          rw [h3]; congr 1; omega
        · rw [h3, h5.2]
      · exact hn.base n s h1 hb
    obtain ⟨v', h3, h4⟩ := hle _ _ hf1
    have := der_top (hs _ _ h3)
    rw [h3]; congr 1; omega
  · by_cases e : g y = f1 y
    · intro v k2 u2 z hv hk2 hsu
      rw [e] at hv
      by_cases ek : k2 = k
      · subst ek
        rw [setG_same] at hk2
        cases hk2
        exact hal y v z hv hsu
      · rw [setG_other ek] at hk2
        rcases hn.old y v hv with h5 | ⟨h5, _⟩
        · exact geO_le (geO_le (h.closed y v k2 u2 z h5 hk2 hsu) (hn.le z)) (hle z)
        · exfalso
          refine h5 ?_
          rcases hsu.2 with ⟨h6, _⟩ | ⟨h6, _⟩
          · exact ⟨k2, u2, hk2, .inl h6⟩
          · exact ⟨k2, u2, hk2, .inr h6⟩
    · exact hch y e
/-- what lasts from a time on -/
def cutG (E : Gr3) (h : Int) : Gr3 := fun k => match E k with | some u => if h ≤ u then some u else none | none => none
theorem cutG_some {E : Gr3} {h : Int} {k : Key} {u : Int} : cutG E h k = some u ↔ E k = some u ∧ h ≤ u := by
  unfold cutG
  cases hE : E k with
  | none => simp
  | some v =>
    simp only []
    split
    · rename_i hv
      constructor
      · intro e; cases e; exact ⟨rfl, hv⟩
      · rintro ⟨e, _⟩; exact e
    · rename_i hv
      constructor
      · intro e; cases e
      · rintro ⟨e, h2⟩; cases e; exact absurd h2 hv
theorem cutG_le (E : Gr3) (h : Int) : leG (cutG E h) E := fun _k v hv => ⟨v, (cutG_some.1 hv).1, Int.le_refl _⟩
theorem der_cut {A : Auto} {E : Gr3} {h : Int} {x : Key} {t : Int} (hd : Der A E x t) (ht : h ≤ t) (hn : isNode (cutG E h) x.a) : Der A (cutG E h) x t := by
  induction hd with
  | base _ hs hf => exact .base hn hs hf
  | step _ hk hu hs ih => exact .step (ih ht (by rw [← hs.1]; exact hn)) (cutG_some.2 ⟨hk, by omega⟩) hu hs
theorem cut_fix {A : Auto} {E : Gr3} {f g : Bst} {h : Int} (hf : FixB A E f) (hg : ∀ x v, g x = some v ↔ f x = some v ∧ h ≤ v ∧ isNode (cutG E h) x.a ∧ isNode (cutG E h) x.b) (htop : ∀ k u, E k = some u → u ≤ forever) : FixB A (cutG E h) g := by
  refine ⟨fun x v hv => ?_, fun n s hn hb => ?_, fun y v k u z hv hk hs => ?_⟩
  · obtain ⟨h1, h2, h3, _⟩ := (hg x v).1 hv
    exact der_cut (hf.sound x v h1) h2 h3
  · refine (hg _ _).2 ⟨hf.base n s (node_mono (cutG_le E h) hn) hb, ?_, hn, hn⟩
    obtain ⟨k, u, h1, _⟩ := hn
    have := cutG_some.1 h1
    have := htop k u this.1
    omega
  · obtain ⟨h1, h2, h3, h4⟩ := (hg y v).1 hv
    obtain ⟨h5, h6⟩ := cutG_some.1 hk
    obtain ⟨v', h7, h8⟩ := hf.closed y v k u z h1 h5 hs
    refine ⟨v', (hg z v').2 ⟨h7, by omega, by rw [hs.1]; exact h3, ?_⟩, h8⟩
    rcases hs.2 with ⟨_, h9, _⟩ | ⟨_, h9, _⟩
    · rw [h9]; exact ⟨k, u, hk, .inr rfl⟩
    · rw [h9]; exact ⟨k, u, hk, .inl rfl⟩
end Go.Proofs.Ytiabmdboacpmcaa
/- Plain: how far what is kept may still grow. -/
namespace Go.Proofs.Ytiabmdboacpmcaa
open Go

def geB (o : Option Int) (v : Int) : Bool := match o with | some u => decide (v ≤ u) | none => false
theorem geB_iff {o : Option Int} {v : Int} : geB o v = true ↔ geO o v := by
  cases o with
  | none => simp [geB, geO]
  | some u => simp [geB, geO]
def gapAt (V : List Int) (f : Bst) (x : Key) : Nat := V.countP fun v => !geB (f x) v
def gap (P : List Key) (V : List Int) (f : Bst) : Nat := (P.map (gapAt V f)).sum
theorem gapAt_mono {V : List Int} {f g : Bst} {x : Key} (h : leO (f x) (g x)) : gapAt V g x ≤ gapAt V f x := by
  refine List.countP_mono_left (fun v _ hv => ?_)
  simp only [Bool.not_eq_true'] at hv ⊢
  cases hf : geB (f x) v with
  | false => rfl
  | true =>
    have := geB_iff.2 (geO_le (geB_iff.1 hf) h)
    rw [this] at hv
    cases hv
theorem gap_mono {P : List Key} {V : List Int} {f g : Bst} (h : leB f g) : gap P V g ≤ gap P V f := by
  unfold gap
  induction P with
  | nil => exact Nat.le_refl _
  | cons x P ih =>
    simp only [List.map_cons, List.sum_cons]
    have := gapAt_mono (V := V) (h x)
    omega
theorem countP_lt {V : List Int} {p q : Int → Bool} (h : ∀ v ∈ V, p v = true → q v = true) {u : Int} (hu : u ∈ V) (hp : p u = false) (hq : q u = true) : V.countP p < V.countP q := by
  induction V with
  | nil => cases hu
  | cons v V ih =>
    rw [List.countP_cons, List.countP_cons]
    have hm : V.countP p ≤ V.countP q := List.countP_mono_left (fun x hx => h x (List.mem_cons_of_mem _ hx))
    rcases List.mem_cons.1 hu with rfl | hu'
    · rw [hp, hq]
      simp
      omega
    · have := ih (fun x hx => h x (List.mem_cons_of_mem _ hx)) hu'
      have h2 := h v (List.mem_cons_self ..)
      by_cases hpv : p v = true
      · rw [hpv, h2 hpv]; simp; exact this
      · simp [hpv]; omega
theorem gapAt_lt {V : List Int} {f g : Bst} {x : Key} (h : leO (f x) (g x)) {u : Int} (hu : u ∈ V) (hf : ¬ geO (f x) u) (hg : geO (g x) u) : gapAt V g x < gapAt V f x := by
  refine countP_lt (fun v _ hv => ?_) hu ?_ ?_
  · simp only [Bool.not_eq_true'] at hv ⊢
    cases hfv : geB (f x) v with
    | false => rfl
    | true =>
      have := geB_iff.2 (geO_le (geB_iff.1 hfv) h)
      rw [this] at hv
      cases hv
  · rw [geB_iff.2 hg]; rfl
  · cases hfu : geB (f x) u with
    | false => rfl
    | true => exact absurd (geB_iff.1 hfu) hf
theorem gap_lt {P : List Key} {V : List Int} {f g : Bst} (h : leB f g) {x : Key} {u : Int} (hx : x ∈ P) (hu : u ∈ V) (hf : ¬ geO (f x) u) (hg : geO (g x) u) : gap P V g < gap P V f := by
  unfold gap
  induction P with
  | nil => cases hx
  | cons y P ih =>
    simp only [List.map_cons, List.sum_cons]
    rcases List.mem_cons.1 hx with rfl | hx'
    · have h1 := gapAt_lt (V := V) (h x) hu hf hg
      have h2 : (P.map (gapAt V g)).sum ≤ (P.map (gapAt V f)).sum := gap_mono (P := P) h
      omega
    · have h1 := ih hx'
      have h2 := gapAt_mono (V := V) (h y)
      omega
/-- places and times that a visit may meet -/
structure Dom (A : Auto) (E : Gr3) (P : List Key) (V : List Int) : Prop where
  val : ∀ k u, E k = some u → u ∈ V
  suc : ∀ x k y, x ∈ P → (E k).isSome = true → Succ A x k y → y ∈ P
theorem min_mem {V : List Int} {a b : Int} (ha : a ∈ V) (hb : b ∈ V) : min a b ∈ V := by
  rcases Int.le_total a b with h | h
  · rw [Int.min_eq_left h]; exact ha
  · rw [Int.min_eq_right h]; exact hb
/-- a place laid: what comes next -/
def putB (f : Bst) (x : Key) (u : Int) : Bst := fun y => if y = x then some u else f y
theorem putB_same (f : Bst) (x : Key) (u : Int) : putB f x u x = some u := if_pos rfl
theorem putB_le {f : Bst} {x : Key} {u : Int} (h : ¬ geO (f x) u) : leB f (putB f x u) := fun y => by
  unfold putB
  by_cases e : y = x
  · subst e
    rw [if_pos rfl]
    intro v hv
    refine ⟨u, rfl, ?_⟩
    refine Classical.byContradiction fun hne => h ⟨v, hv, by omega⟩
  · rw [if_neg e]; exact leO_refl _
theorem putB_low {f : Bst} {x : Key} {u : Int} (h : ¬ geO (f x) u) : ∀ v, f x = some v → v < u := fun v hv => by
  refine Classical.byContradiction fun hne => h ⟨v, hv, by omega⟩
end Go.Proofs.Ytiabmdboacpmcaa
