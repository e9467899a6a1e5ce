/- Keys of three ints (arrays, structs), of two; ints. -/
import Derived.DeepKeys4
import Derived.WideKeyPair
import Derived.Test.YtojgbphmkloicaaKm
namespace Go.Proofs.Ytojgbphmkloicaa
open Go Go.RowKit Go.Sort Go.WideMaps Go.Maps

structure Key where
  a : Int
  b : Int
  c : Int
deriving DecidableEq
structure Two where
  a : Int
  b : Int
deriving DecidableEq
def k3 (x : Key) : Value := .agg #[.int .i64 x.a, .int .i64 x.b, .int .i64 x.c]
def k2 (x : Two) : Value := .agg #[.int .i64 x.a, .int .i64 x.b]
def okI (a : Int) : Prop := (Lit.int .i64 a).wf = true
def ok3 (x : Key) : Prop := okI x.a ∧ okI x.b ∧ okI x.c
def ok2 (x : Two) : Prop := okI x.a ∧ okI x.b
theorem okI_iff {a : Int} : okI a ↔ -9223372036854775808 ≤ a ∧ a ≤ 9223372036854775807 := by
  show (decide (IntKind.i64.min ≤ a) && decide (a ≤ IntKind.i64.max)) = true ↔ _
  rw [show IntKind.i64.min = -9223372036854775808 from rfl, show IntKind.i64.max = 9223372036854775807 from rfl, Bool.and_eq_true, decide_eq_true_iff, decide_eq_true_iff]
theorem k3_inj {x y : Key} (h : k3 x = k3 y) : x = y := by
  cases x; cases y
  simp [k3] at h
  simp [h]
theorem k2_inj {x y : Two} (h : k2 x = k2 y) : x = y := by
  cases x; cases y
  simp [k2] at h
  simp [h]
section
variable {P : Program} {k e : TypeId}
theorem lits_int {d : Nat} (he : P.underlying e = some (.int .i64)) {c : Value} {ls : List Lit} (h : P.keyLits (d + 1) e [c] = some ls) : ∃ a, c = .int .i64 a ∧ okI a := by
  unfold Program.keyLits at h
  simp only [he] at h
  split at h <;> simp_all
  obtain ⟨⟨h1, h2⟩, _⟩ := h
  rename_i hq _
  first | (rw [← hq] at h2; exact h2) | (subst hq; exact h2)
theorem lits_mk {d : Nat} (he : P.underlying e = some (.int .i64)) {a : Int} (h : okI a) : P.keyLits (d + 1) e [.int .i64 a] = some [.int .i64 a] := by
  unfold Program.keyLits
  simp only [he]
  simp only [true_and]
  exact if_pos h
theorem three_of {xs : Array Value} (h : xs.toList.length = 3) : ∃ a b c, xs = #[a, b, c] := by
  match he : xs.toList, h with
  | [a, b, c], _ => exact ⟨a, b, c, by rw [← Array.toArray_toList (xs := xs), he]⟩
theorem two_of {xs : Array Value} (h : xs.toList.length = 2) : ∃ a b, xs = #[a, b] := by
  match he : xs.toList, h with
  | [a, b], _ => exact ⟨a, b, by rw [← Array.toArray_toList (xs := xs), he]⟩
/-- arrays of three ints -/
theorem arr3_key (hu : P.underlying k = some (.array 3 e)) (he : P.underlying e = some (.int .i64)) (h3 : P.cellsOf k = 3) (h1 : P.cellsOf e = 1) (hkt : P.keyType k = true) (hsz : ∃ m, P.types.size = m + 1) {x : Key} (hx : ok3 x) :
    keyOf P k (k3 x) = some (.string (keyBytes [.int .i64 x.a, .int .i64 x.b, .int .i64 x.c])) := by
  obtain ⟨m, hm⟩ := hsz
  unfold keyOf k3
  simp only [hu]
  rw [if_pos (by simp [hkt, Value.formed, hu, h3]), hm]
  unfold Program.keyLits
  simp only [hu, Value.cells]
  rw [if_pos (by rw [h3]; rfl), show List.range 3 = [0, 1, 2] from rfl, List.mapM_cons, List.mapM_cons, List.mapM_cons, List.mapM_nil]
  simp [h1, lits_mk he hx.1, lits_mk he hx.2.1, lits_mk he hx.2.2]
theorem arr3_inv (hu : P.underlying k = some (.array 3 e)) (he : P.underlying e = some (.int .i64)) (h3 : P.cellsOf k = 3) (h1 : P.cellsOf e = 1) (hsz : ∃ m, P.types.size = m + 1) {v : Value} {l : Lit} (h : keyOf P k v = some l) : ∃ x, ok3 x ∧ v = k3 x := by
  obtain ⟨xs, L, rfl, hl, rfl⟩ := keyOf_top (by simp [hu]) h
  obtain ⟨m, hm⟩ := hsz
  rw [hm] at hl
  unfold Program.keyLits at hl
  simp only [hu] at hl
  split at hl
  · rename_i hlen
    rw [h3] at hlen
    obtain ⟨a, b, c, rfl⟩ := three_of hlen
    rw [show List.range 3 = [0, 1, 2] from rfl, List.mapM_cons, List.mapM_cons, List.mapM_cons, List.mapM_nil] at hl
    simp only [h1, bind, Option.map_eq_some_iff, Option.bind_eq_some_iff, pure] at hl
    obtain ⟨_, ⟨_, g0, _, ⟨_, g1, _, ⟨_, g2, _⟩, _⟩, _⟩, _⟩ := hl
    obtain ⟨a, rfl, w0⟩ := lits_int he g0
    obtain ⟨b, rfl, w1⟩ := lits_int he g1
    obtain ⟨c, rfl, w2⟩ := lits_int he g2
    exact ⟨⟨a, b, c⟩, ⟨w0, w1, w2⟩, rfl⟩
  · cases hl
def ktArr3 (hu : P.underlying k = some (.array 3 e)) (he : P.underlying e = some (.int .i64)) (h3 : P.cellsOf k = 3) (h1 : P.cellsOf e = 1) (hkt : P.keyType k = true) (hsz : ∃ m, P.types.size = m + 1) (law : Keyed P k) : KT P k Key where
  val := k3
  ok := ok3
  lit x := .string (keyBytes [.int .i64 x.a, .int .i64 x.b, .int .i64 x.c])
  law := law
  key _ hx := arr3_key hu he h3 h1 hkt hsz hx
  inv _ _ h := arr3_inv hu he h3 h1 hsz h
  inj _ _ h := k3_inj h
/-- structs of three ints, of two -/
theorem str3_key {f0 f1 f2 : Field} (hu : P.underlying k = some (.struct #[f0, f1, f2])) (e0 : P.underlying f0.type = some (.int .i64)) (e1 : P.underlying f1.type = some (.int .i64)) (e2 : P.underlying f2.type = some (.int .i64)) (o0 : f0.offset = 0) (o1 : f1.offset = 1) (o2 : f2.offset = 2)
    (hn : #[f0, f1, f2].all (·.name != "_") = true) (h3 : P.cellsOf k = 3) (c0 : P.cellsOf f0.type = 1) (c1 : P.cellsOf f1.type = 1) (c2 : P.cellsOf f2.type = 1) (hkt : P.keyType k = true) (hsz : ∃ m, P.types.size = m + 1) {x : Key} (hx : ok3 x) :
    keyOf P k (k3 x) = some (.string (keyBytes [.int .i64 x.a, .int .i64 x.b, .int .i64 x.c])) := by
  obtain ⟨m, hm⟩ := hsz
  unfold keyOf k3
  simp only [hu]
  rw [if_pos (by simp [hkt, Value.formed, hu, h3]), hm]
  unfold Program.keyLits
  simp only [hu, Value.cells]
  rw [if_pos ⟨by rw [h3]; rfl, hn⟩]
  simp [o0, o1, o2, c0, c1, c2, lits_mk e0 hx.1, lits_mk e1 hx.2.1, lits_mk e2 hx.2.2]
theorem str3_inv {f0 f1 f2 : Field} (hu : P.underlying k = some (.struct #[f0, f1, f2])) (e0 : P.underlying f0.type = some (.int .i64)) (e1 : P.underlying f1.type = some (.int .i64)) (e2 : P.underlying f2.type = some (.int .i64)) (o0 : f0.offset = 0) (o1 : f1.offset = 1) (o2 : f2.offset = 2)
    (h3 : P.cellsOf k = 3) (c0 : P.cellsOf f0.type = 1) (c1 : P.cellsOf f1.type = 1) (c2 : P.cellsOf f2.type = 1) (hsz : ∃ m, P.types.size = m + 1) {v : Value} {l : Lit} (h : keyOf P k v = some l) : ∃ x, ok3 x ∧ v = k3 x := by
  obtain ⟨xs, L, rfl, hl, rfl⟩ := keyOf_top (by simp [hu]) h
  obtain ⟨m, hm⟩ := hsz
  rw [hm] at hl
  unfold Program.keyLits at hl
  simp only [hu] at hl
  split at hl
  · rename_i hlen
    rw [h3] at hlen
    obtain ⟨a, b, c, rfl⟩ := three_of hlen.1
    simp only [List.mapM_cons, List.mapM_nil, o0, o1, o2, c0, c1, c2, bind, Option.map_eq_some_iff, Option.bind_eq_some_iff, pure] at hl
    obtain ⟨_, ⟨_, g0, _, ⟨_, g1, _, ⟨_, g2, _⟩, _⟩, _⟩, _⟩ := hl
    obtain ⟨a, rfl, w0⟩ := lits_int e0 g0
    obtain ⟨b, rfl, w1⟩ := lits_int e1 g1
    obtain ⟨c, rfl, w2⟩ := lits_int e2 g2
    exact ⟨⟨a, b, c⟩, ⟨w0, w1, w2⟩, rfl⟩
  · cases hl
def ktStr3 {f0 f1 f2 : Field} (hu : P.underlying k = some (.struct #[f0, f1, f2])) (e0 : P.underlying f0.type = some (.int .i64)) (e1 : P.underlying f1.type = some (.int .i64)) (e2 : P.underlying f2.type = some (.int .i64)) (o0 : f0.offset = 0) (o1 : f1.offset = 1) (o2 : f2.offset = 2)
    (hn : #[f0, f1, f2].all (·.name != "_") = true) (h3 : P.cellsOf k = 3) (c0 : P.cellsOf f0.type = 1) (c1 : P.cellsOf f1.type = 1) (c2 : P.cellsOf f2.type = 1) (hkt : P.keyType k = true) (hsz : ∃ m, P.types.size = m + 1) (law : Keyed P k) : KT P k Key where
  val := k3
  ok := ok3
  lit x := .string (keyBytes [.int .i64 x.a, .int .i64 x.b, .int .i64 x.c])
  law := law
  key _ hx := str3_key hu e0 e1 e2 o0 o1 o2 hn h3 c0 c1 c2 hkt hsz hx
  inv _ _ h := str3_inv hu e0 e1 e2 o0 o1 o2 h3 c0 c1 c2 hsz h
  inj _ _ h := k3_inj h
theorem str2_key {f0 f1 : Field} (hu : P.underlying k = some (.struct #[f0, f1])) (e0 : P.underlying f0.type = some (.int .i64)) (e1 : P.underlying f1.type = some (.int .i64)) (o0 : f0.offset = 0) (o1 : f1.offset = 1)
    (hn : #[f0, f1].all (·.name != "_") = true) (h3 : P.cellsOf k = 2) (c0 : P.cellsOf f0.type = 1) (c1 : P.cellsOf f1.type = 1) (hkt : P.keyType k = true) (hsz : ∃ m, P.types.size = m + 1) {x : Two} (hx : ok2 x) :
    keyOf P k (k2 x) = some (.string (keyBytes [.int .i64 x.a, .int .i64 x.b])) := by
  obtain ⟨m, hm⟩ := hsz
  unfold keyOf k2
  simp only [hu]
  rw [if_pos (by simp [hkt, Value.formed, hu, h3]), hm]
  unfold Program.keyLits
  simp only [hu, Value.cells]
  rw [if_pos ⟨by rw [h3]; rfl, hn⟩]
  simp [o0, o1, c0, c1, lits_mk e0 hx.1, lits_mk e1 hx.2]
theorem str2_inv {f0 f1 : Field} (hu : P.underlying k = some (.struct #[f0, f1])) (e0 : P.underlying f0.type = some (.int .i64)) (e1 : P.underlying f1.type = some (.int .i64)) (o0 : f0.offset = 0) (o1 : f1.offset = 1)
    (h3 : P.cellsOf k = 2) (c0 : P.cellsOf f0.type = 1) (c1 : P.cellsOf f1.type = 1) (hsz : ∃ m, P.types.size = m + 1) {v : Value} {l : Lit} (h : keyOf P k v = some l) : ∃ x, ok2 x ∧ v = k2 x := by
  obtain ⟨xs, L, rfl, hl, rfl⟩ := keyOf_top (by simp [hu]) h
  obtain ⟨m, hm⟩ := hsz
  rw [hm] at hl
  unfold Program.keyLits at hl
  simp only [hu] at hl
  split at hl
  · rename_i hlen
    rw [h3] at hlen
    obtain ⟨a, b, rfl⟩ := two_of hlen.1
    simp only [List.mapM_cons, List.mapM_nil, o0, o1, c0, c1, bind, Option.map_eq_some_iff, Option.bind_eq_some_iff, pure] at hl
    obtain ⟨_, ⟨_, g0, _, ⟨_, g1, _⟩, _⟩, _⟩ := hl
    obtain ⟨a, rfl, w0⟩ := lits_int e0 g0
    obtain ⟨b, rfl, w1⟩ := lits_int e1 g1
    exact ⟨⟨a, b⟩, ⟨w0, w1⟩, rfl⟩
  · cases hl
def ktStr2 {f0 f1 : Field} (hu : P.underlying k = some (.struct #[f0, f1])) (e0 : P.underlying f0.type = some (.int .i64)) (e1 : P.underlying f1.type = some (.int .i64)) (o0 : f0.offset = 0) (o1 : f1.offset = 1)
    (hn : #[f0, f1].all (·.name != "_") = true) (h3 : P.cellsOf k = 2) (c0 : P.cellsOf f0.type = 1) (c1 : P.cellsOf f1.type = 1) (hkt : P.keyType k = true) (hsz : ∃ m, P.types.size = m + 1) (law : Keyed P k) : KT P k Two where
  val := k2
  ok := ok2
  lit x := .string (keyBytes [.int .i64 x.a, .int .i64 x.b])
  law := law
  key _ hx := str2_key hu e0 e1 o0 o1 hn h3 c0 c1 hkt hsz hx
  inv _ _ h := str2_inv hu e0 e1 o0 o1 h3 c0 c1 hsz h
  inj _ _ h := k2_inj h
def ktInt (hk : P.underlying k = some (.int .i64)) : KT P k Int where
  val x := .int .i64 x
  ok := okI
  lit x := .int .i64 x
  law := int_keyed hk
  key _ hx := keyOf_int_mk hk hx
  inv v l h := by
    obtain ⟨x, h1, _, h3⟩ := Maps.keyOf_int_inv hk h
    exact ⟨x, h3, h1⟩
  inj _ _ h := by simpa using h
/-- elements: ints, bools, maps -/
def etInt (he : P.underlying e = some (.int .i64)) (hz : ∀ w, (zeroValue e).run P w = .ok (.int .i64 0) w) : ET P e Int where
  val x := .int .i64 x
  dat x := .lit (.int .i64 x)
  ok := okI
  rd := plainElem P e
  get _ hc := ⟨[], plainElem_int he hc⟩
  inv v y h := by
    obtain ⟨a, h1, h2, h3⟩ := plainElem_int_inv he h
    exact ⟨a, h3, h1, by rw [h2]⟩
  inj _ _ h := by simpa using h
  zero := 0
  zok := by rw [okI_iff]; omega
  zrun := hz
theorem plainElem_bool_inv {he : P.underlying e = some .bool} {v : Value} {z : DataW Unit × List MemPlace} (h : plainElem P e v = some z) : ∃ a, v = .bool a ∧ z = (.lit (.bool a), []) := by
  unfold plainElem at h
  rw [he] at h
  cases v <;> simp at h
  exact ⟨_, rfl, h.symm⟩
def etBool (he : P.underlying e = some .bool) (hz : ∀ w, (zeroValue e).run P w = .ok (.bool false) w) : ET P e Bool where
  val x := .bool x
  dat x := .lit (.bool x)
  ok _ := True
  rd := plainElem P e
  get c _ := ⟨[], plainElem_bool he c⟩
  inv v y h := by
    obtain ⟨a, h1, h2⟩ := plainElem_bool_inv (he := he) h
    exact ⟨a, trivial, h1, by rw [h2]⟩
  inj _ _ h := by simpa using h
  zero := false
  zok := trivial
  zrun := hz
def rdMap (v : Value) : Option (DataW Unit × List MemPlace) :=
  match v with
  | .map none => some (.lit (.bool false), [])
  | .map (some b) => some (.lit (.int .i64 (b : Int)), [])
  | _ => none
def datMap : Option Nat → DataW Unit
  | none => .lit (.bool false)
  | some b => .lit (.int .i64 (b : Int))
theorem rdMap_inv {v : Value} {y : DataW Unit × List MemPlace} (h : rdMap v = some y) : ∃ c, v = .map c ∧ y.1 = datMap c := by
  unfold rdMap at h
  split at h
  · cases h; exact ⟨none, rfl, rfl⟩
  · cases h; exact ⟨some _, rfl, rfl⟩
  · cases h
def etMap (hz : ∀ w, (zeroValue e).run P w = .ok (.map none) w) : ET P e (Option Nat) where
  val c := .map c
  dat := datMap
  ok _ := True
  rd := rdMap
  get c _ := by cases c <;> exact ⟨[], rfl⟩
  inv v y h := by
    obtain ⟨c, h1, h2⟩ := rdMap_inv h
    exact ⟨c, trivial, h1, h2⟩
  inj c d h := by
    cases c <;> cases d <;> simp [datMap] at h
    · rfl
    · congr 1; omega
  zero := none
  zok := trivial
  zrun := hz
end
end Go.Proofs.Ytojgbphmkloicaa
