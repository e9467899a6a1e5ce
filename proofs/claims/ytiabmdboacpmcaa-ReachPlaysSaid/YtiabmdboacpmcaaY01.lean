/- Texts joined: Pa. -/
import Derived.RowKit
/- Plain law: paths, the words that they take, and the machine that is laid from them. -/
namespace Go.Proofs.Ytiabmdboacpmcaa

/-- a path -/
inductive Tr where
  | node (kind n : Int) (ps : List Tr)

abbrev Sy := Int × Bool
/-- a move: from, a symbol or none, to -/
abbrev Mv := Nat × Option Sy × Nat

/-- ways along moves -/
inductive Way (E : List Mv) : Nat → List Sy → Nat → Prop
  | nil (s : Nat) : Way E s [] s
  | free {s d e : Nat} {w : List Sy} : (s, none, d) ∈ E → Way E d w e → Way E s w e
  | sym {s d e : Nat} {a : Sy} {w : List Sy} : (s, some a, d) ∈ E → Way E d w e → Way E s (a :: w) e

theorem Way.trans {E : List Mv} {s d e : Nat} {u v : List Sy} (h : Way E s u d) (k : Way E d v e) : Way E s (u ++ v) e := by
  induction h with
  | nil => exact k
  | free hm _ ih => exact .free hm (ih k)
  | sym hm _ ih => exact .sym hm (ih k)
theorem Way.mono {E E' : List Mv} {s e : Nat} {w : List Sy} (h : Way E s w e) (hE : ∀ m ∈ E, m ∈ E') : Way E' s w e := by
  induction h with
  | nil => exact .nil _
  | free hm _ ih => exact .free (hE _ hm) ih
  | sym hm _ ih => exact .sym (hE _ hm) ih
theorem Way.one {E : List Mv} {s d : Nat} (h : (s, none, d) ∈ E) : Way E s [] d := .free h (.nil _)

/-- the words of a kind of path -/
inductive StarL (A : List Sy → Prop) : List Sy → Prop
  | nil : StarL A []
  | cons {u v : List Sy} : A u → StarL A v → StarL A (u ++ v)
mutual
def Words : Tr → List Sy → Prop
  | .node k n ps, w =>
    if k = 0 then w = [(n, false)] else if k = 1 then w = [(n, true)] else if k = 2 then WordsSeq ps w else if k = 3 then WordsAlt ps w
    else if k = 4 then StarL (WordsAlt ps) w else if k = 5 then ∃ u v, w = u ++ v ∧ WordsAlt ps u ∧ StarL (WordsAlt ps) v else w = [] ∨ WordsAlt ps w
def WordsSeq : List Tr → List Sy → Prop
  | [], w => w = []
  | p :: r, w => ∃ u v, w = u ++ v ∧ Words p u ∧ WordsSeq r v
def WordsAlt : List Tr → List Sy → Prop
  | [], _ => False
  | p :: r, w => Words p w ∨ WordsAlt r w
end

/-- what is laid: the moves, how many states there are then, where it ends -/
structure Laid where
  moves : List Mv
  many : Nat
  last : Nat
mutual
def gen : Tr → Nat → Nat → Laid
  | .node k n ps, m, from' =>
    if k = 0 ∨ k = 1 then ⟨[(from', some (n, decide (k = 1)), m)], m + 1, m⟩
    else if k = 2 then genSeq ps m from'
    else if k = 3 then let r := genAlt ps (m + 1) from' m; ⟨r.1, r.2, m⟩
    else
      let r := genOne ps (m + 2) m
      ⟨(from', none, m) :: (r.moves ++ ((r.last, none, m + 1) :: ((if k = 5 then [] else [(m, none, m + 1)]) ++ (if k = 6 then [] else [(m + 1, none, m)])))), r.many, m + 1⟩
def genSeq : List Tr → Nat → Nat → Laid
  | [], m, from' => ⟨[], m, from'⟩
  | p :: r, m, from' => let a := gen p m from'; let b := genSeq r a.many a.last; ⟨a.moves ++ b.moves, b.many, b.last⟩
def genAlt : List Tr → Nat → Nat → Nat → List Mv × Nat
  | [], m, _, _ => ([], m)
  | p :: r, m, from', to => let a := gen p (m + 1) m; let b := genAlt r a.many from' to; ((from', none, m) :: (a.moves ++ ((a.last, none, to) :: b.1)), b.2)
def genOne : List Tr → Nat → Nat → Laid
  | [], m, from' => ⟨[], m, from'⟩
  | p :: _, m, from' => gen p m from'
end

/- the form of a path -/
mutual
def Form : Tr → Prop
  | .node k n ps => (k = 0 ∨ k = 1) ∧ ps = [] ∧ 0 ≤ n ∨ (k = 2 ∨ k = 3) ∧ ps ≠ [] ∧ FormL ps ∨ (k = 4 ∨ k = 5 ∨ k = 6) ∧ (∃ p, ps = [p]) ∧ FormL ps
def FormL : List Tr → Prop
  | [] => True
  | p :: r => Form p ∧ FormL r
end

/-- moves of a part: from a state or new ones, to new ones -/
structure Good (E : List Mv) (m from' m' : Nat) : Prop where
  src : ∀ s o d, (s, o, d) ∈ E → s = from' ∨ m ≤ s ∧ s < m'
  dst : ∀ s o d, (s, o, d) ∈ E → m ≤ d ∧ d < m'
/-- a part: it ends at a new state, and its ways are its words -/
structure Part (t : Tr) (m from' : Nat) (a : Laid) : Prop where
  le : m < a.many
  good : Good a.moves m from' a.many
  last1 : m ≤ a.last
  last2 : a.last < a.many
  ways : ∀ w, Way a.moves from' w a.last ↔ Words t w
structure PartS (ps : List Tr) (m from' : Nat) (a : Laid) : Prop where
  le : m ≤ a.many
  good : Good a.moves m from' a.many
  last : (ps = [] ∧ a.last = from') ∨ (m < a.many ∧ m ≤ a.last ∧ a.last < a.many)
  none : ps = [] → a.moves = []
  ways : ∀ w, Way a.moves from' w a.last ↔ WordsSeq ps w
structure PartA (ps : List Tr) (m from' to : Nat) (a : List Mv × Nat) : Prop where
  le : m ≤ a.2
  src : ∀ s o d, (s, o, d) ∈ a.1 → s = from' ∨ m ≤ s ∧ s < a.2
  dst : ∀ s o d, (s, o, d) ∈ a.1 → d = to ∨ m ≤ d ∧ d < a.2
  ways : ∀ w, Way a.1 from' w to ↔ WordsAlt ps w

theorem way_of_none {s e : Nat} {w : List Sy} (h : Way [] s w e) : w = [] ∧ s = e := by
  cases h with
  | nil => exact ⟨rfl, rfl⟩
  | free hm => cases hm
  | sym hm => cases hm
/-- ways in two parts, one behind the other -/
theorem way_split {F R : List Mv} {m n1 n' from' e1 e : Nat} (hF : Good F m from' n1) (hR : Good R n1 e1 n') (hfrom : from' < m) (he1 : m ≤ e1 ∧ e1 < n1) (_hm : n1 ≤ n')
    (he : (R = [] ∧ e = e1) ∨ (n1 ≤ e ∧ e < n')) {s : Nat} {w : List Sy} {d : Nat} (h : Way (F ++ R) s w d) (hd : d = e) :
    ((s = from' ∨ m ≤ s ∧ s < n1) → ∃ u v, w = u ++ v ∧ Way F s u e1 ∧ Way R e1 v e) ∧ (n1 ≤ s → Way R s w e) := by
  induction h with
  | nil s =>
    subst hd
    constructor
    · intro hs
      rcases he with ⟨rfl, rfl⟩ | ⟨h1, h2⟩
      · exact ⟨[], [], rfl, .nil _, .nil _⟩
      · exfalso; omega
    · intro _; exact .nil _
  | free hmv _ ih =>
    obtain ⟨ih1, ih2⟩ := ih hd
    rename_i s d' e' w' hw
    rcases List.mem_append.1 hmv with h1 | h1
    · have hdd := hF.dst _ _ _ h1
      have hss := hF.src _ _ _ h1
      constructor
      · intro _
        obtain ⟨u, v, rfl, h2, h3⟩ := ih1 (.inr hdd)
        exact ⟨u, v, rfl, .free h1 h2, h3⟩
      · intro hs; exfalso; omega
    · have hdd := hR.dst _ _ _ h1
      have hss := hR.src _ _ _ h1
      have h2 := ih2 hdd.1
      constructor
      · intro hs
        obtain rfl : s = e1 := by omega
        exact ⟨[], w', rfl, .nil _, .free h1 h2⟩
      · intro _; exact .free h1 h2
  | sym hmv _ ih =>
    obtain ⟨ih1, ih2⟩ := ih hd
    rename_i s d' e' a w' hw
    rcases List.mem_append.1 hmv with h1 | h1
    · have hdd := hF.dst _ _ _ h1
      have hss := hF.src _ _ _ h1
      constructor
      · intro _
        obtain ⟨u, v, rfl, h2, h3⟩ := ih1 (.inr hdd)
        exact ⟨a :: u, v, rfl, .sym h1 h2, h3⟩
      · intro hs; exfalso; omega
    · have hdd := hR.dst _ _ _ h1
      have hss := hR.src _ _ _ h1
      have h2 := ih2 hdd.1
      constructor
      · intro hs
        obtain rfl : s = e1 := by omega
        exact ⟨[], a :: w', rfl, .nil _, .sym h1 h2⟩
      · intro _; exact .sym h1 h2
/-- ways of an alternative -/
theorem way_alt {F R : List Mv} {m n1 n' from' e1 to : Nat} (hF : Good F (m + 1) m n1) (hlt : m < n1) (he1 : m + 1 ≤ e1 ∧ e1 < n1)
    (hRs : ∀ s o d, (s, o, d) ∈ R → s = from' ∨ n1 ≤ s ∧ s < n') (hRd : ∀ s o d, (s, o, d) ∈ R → d = to ∨ n1 ≤ d ∧ d < n') (hfrom : from' < m) (hto : to < m) (hne : from' ≠ to) {s : Nat} {w : List Sy} {d : Nat}
    (h : Way ((from', none, m) :: (F ++ ((e1, none, to) :: R))) s w d) (hd : d = to) :
    (s = from' → Way F m w e1 ∨ Way R from' w to) ∧ (m ≤ s ∧ s < n1 → Way F s w e1) ∧ (n1 ≤ s → Way R s w to) ∧ (s = to → w = []) := by
  have key : ∀ (s d' : Nat) (o : Option Sy), (s, o, d') ∈ ((from', none, m) :: (F ++ ((e1, none, to) :: R))) → (s = from' ∧ o = none ∧ d' = m) ∨ (s, o, d') ∈ F ∨ (s = e1 ∧ o = none ∧ d' = to) ∨ (s, o, d') ∈ R := by
    intro s d' o hm
    rcases List.mem_cons.1 hm with h | h
    · simp only [Prod.mk.injEq] at h; exact .inl h
    rcases List.mem_append.1 h with h | h
    · exact .inr (.inl h)
    rcases List.mem_cons.1 h with h | h
    · simp only [Prod.mk.injEq] at h; exact .inr (.inr (.inl h))
    · exact .inr (.inr (.inr h))
  induction h with
  | nil s =>
    subst hd
    refine ⟨fun h => absurd h.symm hne, fun h => ?_, fun h => ?_, fun _ => rfl⟩ <;> (exfalso; omega)
  | free hmv _ ih =>
    obtain ⟨i1, i2, i3, i4⟩ := ih hd
    rename_i s d' e' w' hw
    rcases key _ _ _ hmv with ⟨rfl, -, rfl⟩ | h1 | ⟨rfl, -, rfl⟩ | h1
    · refine ⟨fun _ => .inl (i2 ⟨Nat.le_refl _, hlt⟩), fun h => ?_, fun h => ?_, fun h => absurd h hne⟩ <;> (exfalso; omega)
    · have h2 := hF.dst _ _ _ h1
      have h3 := hF.src _ _ _ h1
      have h4 := i2 ⟨by omega, h2.2⟩
      refine ⟨fun h => ?_, fun _ => .free h1 h4, fun h => ?_, fun h => ?_⟩ <;> (exfalso; omega)
    · have h2 := i4 rfl
      subst h2
      refine ⟨fun h => ?_, fun _ => .nil _, fun h => ?_, fun h => ?_⟩ <;> (exfalso; omega)
    · have h2 := hRd _ _ _ h1
      have h3 := hRs _ _ _ h1
      have h4 : Way R s w' to := by
        rcases h2 with rfl | h2
        · have := i4 rfl
          subst this
          exact .one h1
        · exact .free h1 (i3 h2.1)
      refine ⟨fun h => by subst h; exact .inr h4, fun h => ?_, fun _ => h4, fun h => ?_⟩ <;> (exfalso; omega)
  | sym hmv _ ih =>
    obtain ⟨i1, i2, i3, i4⟩ := ih hd
    rename_i s d' e' a w' hw
    rcases key _ _ _ hmv with ⟨rfl, h, -⟩ | h1 | ⟨rfl, h, -⟩ | h1
    · cases h
    · have h2 := hF.dst _ _ _ h1
      have h3 := hF.src _ _ _ h1
      have h4 := i2 ⟨by omega, h2.2⟩
      refine ⟨fun h => ?_, fun _ => .sym h1 h4, fun h => ?_, fun h => ?_⟩ <;> (exfalso; omega)
    · cases h
    · have h2 := hRd _ _ _ h1
      have h3 := hRs _ _ _ h1
      have h4 : Way R s (a :: w') to := by
        rcases h2 with rfl | h2
        · have := i4 rfl
          subst this
          exact .sym h1 (.nil _)
        · exact .sym h1 (i3 h2.1)
      refine ⟨fun h => by subst h; exact .inr h4, fun h => ?_, fun _ => h4, fun h => ?_⟩ <;> (exfalso; omega)
/-- ways of a part that may be gone again: what is gone from out to out -/
def Loops (k : Int) (A : List Sy → Prop) (w : List Sy) : Prop := if k = 6 then w = [] else StarL A w
def Skips (k : Int) (w : List Sy) (A : List Sy → Prop) : Prop := k ≠ 5 ∧ Loops k A w
theorem way_loop {F : List Mv} {k : Int} {A : List Sy → Prop} {m n' from' e1 : Nat} (hF : Good F (m + 2) m n') (hlt : m + 2 < n') (he1 : m + 2 ≤ e1 ∧ e1 < n') (hA : ∀ w, Way F m w e1 → A w) (hA0 : ∀ w, Way F m w e1 → A w) (hfrom : from' < m)
    {s : Nat} {w : List Sy} {d : Nat}
    (h : Way ((from', none, m) :: (F ++ ((e1, none, m + 1) :: ((if k = 5 then [] else [(m, none, m + 1)]) ++ (if k = 6 then [] else [(m + 1, none, m)]))))) s w d) (hd : d = m + 1) :
    ((s = from' ∨ s = m) → (∃ u v, w = u ++ v ∧ Way F m u e1 ∧ Loops k A v) ∨ (k ≠ 5 ∧ Loops k A w)) ∧ (m + 2 ≤ s → ∃ u v, w = u ++ v ∧ Way F s u e1 ∧ Loops k A v) ∧ (s = m + 1 → Loops k A w) := by
  have key : ∀ (s d' : Nat) (o : Option Sy), (s, o, d') ∈ ((from', none, m) :: (F ++ ((e1, none, m + 1) :: ((if k = 5 then [] else [(m, none, m + 1)]) ++ (if k = 6 then [] else [(m + 1, none, m)]))))) →
      (s = from' ∧ o = none ∧ d' = m) ∨ (s, o, d') ∈ F ∨ (s = e1 ∧ o = none ∧ d' = m + 1) ∨ (k ≠ 5 ∧ s = m ∧ o = none ∧ d' = m + 1) ∨ (k ≠ 6 ∧ s = m + 1 ∧ o = none ∧ d' = m) := by
    intro s d' o hm
    rcases List.mem_cons.1 hm with h | h
    · simp only [Prod.mk.injEq] at h; exact .inl h
    rcases List.mem_append.1 h with h | h
    · exact .inr (.inl h)
    rcases List.mem_cons.1 h with h | h
    · simp only [Prod.mk.injEq] at h; exact .inr (.inr (.inl h))
    rcases List.mem_append.1 h with h | h
    · split at h
      · cases h
      · rename_i hk
        simp only [List.mem_singleton, Prod.mk.injEq] at h
        exact .inr (.inr (.inr (.inl ⟨hk, h⟩)))
    · split at h
      · cases h
      · rename_i hk
        simp only [List.mem_singleton, Prod.mk.injEq] at h
        exact .inr (.inr (.inr (.inr ⟨hk, h⟩)))
  have nilL : Loops k A [] := by unfold Loops; split; rfl; exact .nil
  induction h with
  | nil s =>
    subst hd
    refine ⟨fun h => ?_, fun h => ?_, fun _ => nilL⟩ <;> (exfalso; omega)
  | free hmv _ ih =>
    obtain ⟨i1, i2, i3⟩ := ih hd
    rename_i s d' e' w' hw
    rcases key _ _ _ hmv with ⟨rfl, -, rfl⟩ | h1 | ⟨rfl, -, rfl⟩ | ⟨hk, rfl, -, rfl⟩ | ⟨hk, rfl, -, rfl⟩
    · refine ⟨fun _ => i1 (.inr rfl), fun h => ?_, fun h => ?_⟩ <;> (exfalso; omega)
    · have h2 := hF.dst _ _ _ h1
      have h3 := hF.src _ _ _ h1
      obtain ⟨u, v, rfl, h4, h5⟩ := i2 h2.1
      refine ⟨fun h => ?_, fun _ => ⟨u, v, rfl, .free h1 h4, h5⟩, fun h => ?_⟩
      · obtain rfl : s = m := by omega
        exact .inl ⟨u, v, rfl, .free h1 h4, h5⟩
      · exfalso; omega
    · refine ⟨fun h => ?_, fun _ => ⟨[], w', rfl, .nil _, i3 rfl⟩, fun h => ?_⟩ <;> (exfalso; omega)
    · refine ⟨fun _ => .inr ⟨hk, i3 rfl⟩, fun h => ?_, fun h => ?_⟩ <;> (exfalso; omega)
    · refine ⟨fun h => ?_, fun h => ?_, fun _ => ?_⟩
      · exfalso; omega
      · exfalso; omega
      · rcases i1 (.inr rfl) with ⟨u, v, rfl, h4, h5⟩ | ⟨_, h5⟩
        · unfold Loops at h5 ⊢
          rw [if_neg hk] at h5 ⊢
          exact .cons (hA _ h4) h5
        · exact h5
  | sym hmv _ ih =>
    obtain ⟨i1, i2, i3⟩ := ih hd
    rename_i s d' e' a w' hw
    rcases key _ _ _ hmv with ⟨rfl, h, -⟩ | h1 | ⟨rfl, h, -⟩ | ⟨hk, rfl, h, -⟩ | ⟨hk, rfl, h, -⟩
    · cases h
    · have h2 := hF.dst _ _ _ h1
      have h3 := hF.src _ _ _ h1
      obtain ⟨u, v, rfl, h4, h5⟩ := i2 h2.1
      refine ⟨fun h => ?_, fun _ => ⟨a :: u, v, rfl, .sym h1 h4, h5⟩, fun h => ?_⟩
      · obtain rfl : s = m := by omega
        exact .inl ⟨a :: u, v, rfl, .sym h1 h4, h5⟩
      · exfalso; omega
    · cases h
    · cases h
    · cases h
theorem star_way {E : List Mv} {A : List Sy → Prop} {i o : Nat} (hio : ∀ w, A w → Way E i w o) (hoi : Way E o [] i) {w : List Sy} (h : StarL A w) : Way E o w o := by
  induction h with
  | nil => exact .nil _
  | cons ha _ ih =>
    have := (hoi.trans (hio _ ha)).trans ih
    simpa using this

mutual
theorem part_ok : ∀ (t : Tr) (m from' : Nat), Form t → from' < m → Part t m from' (gen t m from')
  | .node k n ps, m, from', hf, hlt => by
    rw [Form] at hf
    rcases hf with ⟨hk, rfl, hn⟩ | ⟨hk, hne, hfl⟩ | ⟨hk, ⟨p, rfl⟩, hfl⟩
    · have e : gen (.node k n []) m from' = ⟨[(from', some (n, decide (k = 1)), m)], m + 1, m⟩ := by rw [gen, if_pos hk]
      rw [e]
      refine ⟨Nat.lt_succ_self _, ⟨fun s o d h => ?_, fun s o d h => ?_⟩, Nat.le_refl _, Nat.lt_succ_self _, fun w => ⟨fun h => ?_, fun h => ?_⟩⟩
      · simp only [List.mem_singleton, Prod.mk.injEq] at h; exact .inl h.1
      · simp only [List.mem_singleton, Prod.mk.injEq] at h; obtain ⟨-, -, rfl⟩ := h; exact ⟨Nat.le_refl _, Nat.lt_succ_self _⟩
      · replace h : Way [(from', some (n, decide (k = 1)), m)] from' w m := h
        have : w = [(n, decide (k = 1))] := by
          cases h with
          | nil => exfalso; omega
          | free hm => simp at hm
          | sym hm hw =>
            simp only [List.mem_singleton, Prod.mk.injEq, Option.some.injEq] at hm
            obtain ⟨-, ha, rfl⟩ := hm
            cases hw with
            | nil => rw [ha]
            | free hm => simp at hm
            | sym hm => simp at hm; omega
        subst this
        rw [Words]
        rcases hk with rfl | rfl <;> simp
      · rw [Words] at h
        have : w = [(n, decide (k = 1))] := by rcases hk with rfl | rfl <;> simpa using h
        subst this
        exact .sym (by simp) (.nil _)
    · rcases hk with rfl | rfl
      · have e : gen (.node 2 n ps) m from' = genSeq ps m from' := by rw [gen, if_neg (by decide), if_pos rfl]
        have h := partS_ok ps m from' hfl hlt
        rw [e]
        rcases h.last with ⟨h0, _⟩ | ⟨h1, h2, h3⟩
        · exact absurd h0 hne
        · exact ⟨h1, h.good, h2, h3, fun w => by rw [h.ways w, Words, if_neg (by decide), if_neg (by decide), if_pos rfl]⟩
      · have e : gen (.node 3 n ps) m from' = ⟨(genAlt ps (m + 1) from' m).1, (genAlt ps (m + 1) from' m).2, m⟩ := by rw [gen, if_neg (by decide), if_neg (by decide), if_pos rfl]
        have h := partA_ok ps (m + 1) from' m hfl (by omega) (by omega) (by omega)
        rw [e]
        refine ⟨h.le, ⟨fun s o d hm => ?_, fun s o d hm => ?_⟩, Nat.le_refl _, h.le, fun w => by rw [h.ways w, Words, if_neg (by decide), if_neg (by decide), if_neg (by decide), if_pos rfl]⟩
        · have := h.src s o d hm; show s = from' ∨ m ≤ s ∧ s < (genAlt ps (m + 1) from' m).2; omega
        · have := h.dst s o d hm; have := h.le; show m ≤ d ∧ d < (genAlt ps (m + 1) from' m).2; omega
    · have hfp : Form p := by rw [FormL] at hfl; exact hfl.1
      have h := part_ok p (m + 2) m hfp (by omega)
      have e : gen (.node k n [p]) m from' = ⟨(from', none, m) :: ((gen p (m + 2) m).moves ++ (((gen p (m + 2) m).last, none, m + 1) :: ((if k = 5 then [] else [(m, none, m + 1)]) ++ (if k = 6 then [] else [(m + 1, none, m)])))), (gen p (m + 2) m).many, m + 1⟩ := by
        rw [gen, if_neg (by omega), if_neg (by omega), if_neg (by omega), genOne]
      rw [e]
      obtain ⟨a, ha⟩ : ∃ a, a = gen p (m + 2) m := ⟨_, rfl⟩
      rw [← ha] at h ⊢
      have hle := h.le
      have hmem : ∀ s o d, (s, o, d) ∈ ((from', none, m) :: (a.moves ++ ((a.last, none, m + 1) :: ((if k = 5 then [] else [(m, none, m + 1)]) ++ (if k = 6 then [] else [(m + 1, none, m)])))) : List Mv) →
          (s = from' ∧ d = m) ∨ (s, o, d) ∈ a.moves ∨ (s = a.last ∧ d = m + 1) ∨ (s = m ∧ d = m + 1) ∨ (s = m + 1 ∧ d = m) := by
        intro s o d hm
        rcases List.mem_cons.1 hm with h | h
        · simp only [Prod.mk.injEq] at h; exact .inl ⟨h.1, h.2.2⟩
        rcases List.mem_append.1 h with h | h
        · exact .inr (.inl h)
        rcases List.mem_cons.1 h with h | h
        · simp only [Prod.mk.injEq] at h; exact .inr (.inr (.inl ⟨h.1, h.2.2⟩))
        rcases List.mem_append.1 h with h | h
        · split at h
          · cases h
          · simp only [List.mem_singleton, Prod.mk.injEq] at h
            exact .inr (.inr (.inr (.inl ⟨h.1, h.2.2⟩)))
        · split at h
          · cases h
          · simp only [List.mem_singleton, Prod.mk.injEq] at h
            exact .inr (.inr (.inr (.inr ⟨h.1, h.2.2⟩)))
      refine ⟨by show m < a.many; omega, ⟨fun s o d hm => ?_, fun s o d hm => ?_⟩, by show m ≤ m + 1; omega, by show m + 1 < a.many; omega, fun w => ⟨fun hw => ?_, fun hw => ?_⟩⟩
      · show s = from' ∨ m ≤ s ∧ s < a.many
        have l2 := h.last2
        have l1 := h.last1
        rcases hmem s o d hm with h1 | h1 | h1 | h1 | h1
        · exact .inl h1.1
        · have := h.good.src s o d h1; omega
        all_goals omega
      · show m ≤ d ∧ d < a.many
        rcases hmem s o d hm with h1 | h1 | h1 | h1 | h1
        · omega
        · have := h.good.dst s o d h1; omega
        all_goals omega
      · have hl := (way_loop (A := Words p) h.good hle ⟨h.last1, h.last2⟩ (fun w hw => (h.ways w).1 hw) (fun w hw => (h.ways w).1 hw) hlt hw rfl).1 (.inl rfl)
        have hAlt : WordsAlt [p] = Words p := by
          funext w
          rw [WordsAlt, WordsAlt, or_false]
        rw [Words, hAlt]
        unfold Loops at hl
        rcases hk with rfl | rfl | rfl
        · rw [if_neg (by decide), if_neg (by decide), if_neg (by decide), if_neg (by decide), if_pos rfl]
          rcases hl with ⟨u, v, rfl, h1, h2⟩ | ⟨_, h2⟩
          · rw [if_neg (by decide)] at h2; exact .cons ((h.ways u).1 h1) h2
          · rw [if_neg (by decide)] at h2; exact h2
        · rw [if_neg (by decide), if_neg (by decide), if_neg (by decide), if_neg (by decide), if_neg (by decide), if_pos rfl]
          rcases hl with ⟨u, v, rfl, h1, h2⟩ | ⟨h2, _⟩
          · rw [if_neg (by decide)] at h2; exact ⟨u, v, rfl, (h.ways u).1 h1, h2⟩
          · exact absurd rfl h2
        · rw [if_neg (by decide), if_neg (by decide), if_neg (by decide), if_neg (by decide), if_neg (by decide), if_neg (by decide)]
          rcases hl with ⟨u, v, rfl, h1, h2⟩ | ⟨_, h2⟩
          · rw [if_pos rfl] at h2; subst h2; rw [List.append_nil]; exact .inr ((h.ways u).1 h1)
          · rw [if_pos rfl] at h2; exact .inl h2
      · obtain ⟨E, hE⟩ : ∃ E : List Mv, E = ((from', none, m) :: (a.moves ++ ((a.last, none, m + 1) :: ((if k = 5 then [] else [(m, none, m + 1)]) ++ (if k = 6 then [] else [(m + 1, none, m)]))))) := ⟨_, rfl⟩
        show Way ((from', none, m) :: (a.moves ++ ((a.last, none, m + 1) :: ((if k = 5 then [] else [(m, none, m + 1)]) ++ (if k = 6 then [] else [(m + 1, none, m)]))))) from' w (m + 1)
        rw [← hE]
        have w0 : Way E from' [] m := .one (by rw [hE]; simp)
        have w1 : ∀ u, Words p u → Way E m u (m + 1) := fun u hu => by
          have h1 : Way E m u a.last := ((h.ways u).2 hu).mono (fun x hx => by rw [hE]; simp [hx])
          have h2 : Way E a.last [] (m + 1) := .one (by rw [hE]; simp)
          simpa using h1.trans h2
        have w2 : k ≠ 5 → Way E m [] (m + 1) := fun hk => .one (by rw [hE]; simp [hk])
        have w3 : k ≠ 6 → Way E (m + 1) [] m := fun hk => .one (by rw [hE]; simp [hk])
        have hAlt : WordsAlt [p] = Words p := by
          funext w
          rw [WordsAlt, WordsAlt, or_false]
        rw [Words, hAlt] at hw
        rcases hk with rfl | rfl | rfl
        · rw [if_neg (by decide), if_neg (by decide), if_neg (by decide), if_neg (by decide), if_pos rfl] at hw
          have := (w0.trans (w2 (by decide))).trans (star_way w1 (w3 (by decide)) hw)
          simpa using this
        · rw [if_neg (by decide), if_neg (by decide), if_neg (by decide), if_neg (by decide), if_neg (by decide), if_pos rfl] at hw
          obtain ⟨u, v, rfl, h1, h2⟩ := hw
          have := (w0.trans (w1 u h1)).trans (star_way w1 (w3 (by decide)) h2)
          simpa using this
        · rw [if_neg (by decide), if_neg (by decide), if_neg (by decide), if_neg (by decide), if_neg (by decide), if_neg (by decide)] at hw
          rcases hw with rfl | hw
          · simpa using w0.trans (w2 (by decide))
          · simpa using w0.trans (w1 w hw)
theorem partS_ok : ∀ (ps : List Tr) (m from' : Nat), FormL ps → from' < m → PartS ps m from' (genSeq ps m from')
  | [], m, from', _, _ => by
    have e : genSeq [] m from' = ⟨[], m, from'⟩ := by rw [genSeq]
    rw [e]
    refine ⟨Nat.le_refl _, ⟨fun s o d h => (by cases h), fun s o d h => (by cases h)⟩, .inl ⟨rfl, rfl⟩, fun _ => rfl, fun w => ⟨fun h => ?_, fun h => ?_⟩⟩
    · rw [WordsSeq]; exact (way_of_none h).1
    · rw [WordsSeq] at h; subst h; exact .nil _
  | p :: r, m, from', hf, hlt => by
    rw [FormL] at hf
    have h1 := part_ok p m from' hf.1 hlt
    have h2 := partS_ok r (gen p m from').many (gen p m from').last hf.2 h1.last2
    have e : genSeq (p :: r) m from' = ⟨(gen p m from').moves ++ (genSeq r (gen p m from').many (gen p m from').last).moves, (genSeq r (gen p m from').many (gen p m from').last).many, (genSeq r (gen p m from').many (gen p m from').last).last⟩ := by rw [genSeq]
    rw [e]
    obtain ⟨a, ha⟩ : ∃ a, a = gen p m from' := ⟨_, rfl⟩
    rw [← ha] at h1 h2 ⊢
    obtain ⟨b, hb⟩ : ∃ b, b = genSeq r a.many a.last := ⟨_, rfl⟩
    rw [← hb] at h2 ⊢
    have l0 := h1.le
    have l1 := h1.last1
    have l2 := h1.last2
    have l3 := h2.le
    refine ⟨by show m ≤ b.many; omega, ⟨fun s o d h => ?_, fun s o d h => ?_⟩, .inr ⟨by show m < b.many; omega, ?_, ?_⟩, fun h => (by cases h), fun w => ⟨fun h => ?_, fun h => ?_⟩⟩
    · show s = from' ∨ m ≤ s ∧ s < b.many
      rcases List.mem_append.1 h with h | h
      · have := h1.good.src _ _ _ h; omega
      · have := h2.good.src _ _ _ h; omega
    · show m ≤ d ∧ d < b.many
      rcases List.mem_append.1 h with h | h
      · have := h1.good.dst _ _ _ h; omega
      · have := h2.good.dst _ _ _ h; omega
    · show m ≤ b.last
      rcases h2.last with h | h <;> omega
    · show b.last < b.many
      rcases h2.last with h | h <;> omega
    · have he : (b.moves = [] ∧ b.last = a.last) ∨ (a.many ≤ b.last ∧ b.last < b.many) := by
        rcases h2.last with ⟨h, h'⟩ | h
        · exact .inl ⟨h2.none h, h'⟩
        · exact .inr ⟨h.2.1, h.2.2⟩
      obtain ⟨u, v, rfl, h3, h4⟩ := (way_split h1.good h2.good hlt ⟨l1, l2⟩ l3 he h rfl).1 (.inl rfl)
      rw [WordsSeq]
      exact ⟨u, v, rfl, (h1.ways u).1 h3, (h2.ways v).1 h4⟩
    · rw [WordsSeq] at h
      obtain ⟨u, v, rfl, h3, h4⟩ := h
      exact (((h1.ways u).2 h3).mono (fun x hx => List.mem_append.2 (.inl hx))).trans (((h2.ways v).2 h4).mono (fun x hx => List.mem_append.2 (.inr hx)))
theorem partA_ok : ∀ (ps : List Tr) (m from' to : Nat), FormL ps → from' < m → to < m → from' ≠ to → PartA ps m from' to (genAlt ps m from' to)
  | [], m, from', to, _, _, _, hne => by
    have e : genAlt [] m from' to = ([], m) := by rw [genAlt]
    rw [e]
    refine ⟨Nat.le_refl _, fun s o d h => (by cases h), fun s o d h => (by cases h), fun w => ⟨fun h => ?_, fun h => ?_⟩⟩
    · exact absurd (way_of_none h).2 hne
    · rw [WordsAlt] at h; cases h
  | p :: r, m, from', to, hf, hlt, hto, hne => by
    rw [FormL] at hf
    have h1 := part_ok p (m + 1) m hf.1 (by omega)
    have h2 := partA_ok r (gen p (m + 1) m).many from' to hf.2 (by have := h1.le; omega) (by have := h1.le; omega) hne
    have e : genAlt (p :: r) m from' to = ((from', none, m) :: ((gen p (m + 1) m).moves ++ (((gen p (m + 1) m).last, none, to) :: (genAlt r (gen p (m + 1) m).many from' to).1)), (genAlt r (gen p (m + 1) m).many from' to).2) := by rw [genAlt]
    rw [e]
    obtain ⟨a, ha⟩ : ∃ a, a = gen p (m + 1) m := ⟨_, rfl⟩
    rw [← ha] at h1 h2 ⊢
    obtain ⟨b, hb⟩ : ∃ b, b = genAlt r a.many from' to := ⟨_, rfl⟩
    rw [← hb] at h2 ⊢
    have l0 := h1.le
    have l1 := h1.last1
    have l2 := h1.last2
    have l3 := h2.le
    have hmem : ∀ s o d, (s, o, d) ∈ ((from', none, m) :: (a.moves ++ ((a.last, none, to) :: b.1)) : List Mv) → (s = from' ∧ d = m) ∨ (s, o, d) ∈ a.moves ∨ (s = a.last ∧ d = to) ∨ (s, o, d) ∈ b.1 := by
      intro s o d hm
      rcases List.mem_cons.1 hm with h | h
      · simp only [Prod.mk.injEq] at h; exact .inl ⟨h.1, h.2.2⟩
      rcases List.mem_append.1 h with h | h
      · exact .inr (.inl h)
      rcases List.mem_cons.1 h with h | h
      · simp only [Prod.mk.injEq] at h; exact .inr (.inr (.inl ⟨h.1, h.2.2⟩))
      · exact .inr (.inr (.inr h))
    refine ⟨by show m ≤ b.2; omega, fun s o d h => ?_, fun s o d h => ?_, fun w => ⟨fun h => ?_, fun h => ?_⟩⟩
    · show s = from' ∨ m ≤ s ∧ s < b.2
      rcases hmem _ _ _ h with h | h | h | h
      · exact .inl h.1
      · have := h1.good.src _ _ _ h; omega
      · omega
      · have := h2.src _ _ _ h; omega
    · show d = to ∨ m ≤ d ∧ d < b.2
      rcases hmem _ _ _ h with h | h | h | h
      · omega
      · have := h1.good.dst _ _ _ h; omega
      · exact .inl h.2
      · have := h2.dst _ _ _ h; omega
    · rw [WordsAlt]
      rcases (way_alt h1.good (by omega) ⟨l1, l2⟩ h2.src h2.dst hlt hto hne h rfl).1 rfl with h | h
      · exact .inl ((h1.ways w).1 h)
      · exact .inr ((h2.ways w).1 h)
    · rw [WordsAlt] at h
      rcases h with h | h
      · have w0 : Way ((from', none, m) :: (a.moves ++ ((a.last, none, to) :: b.1))) from' [] m := .one (by simp)
        have w1 : Way ((from', none, m) :: (a.moves ++ ((a.last, none, to) :: b.1))) m w a.last := ((h1.ways w).2 h).mono (fun x hx => by simp [hx])
        have w2 : Way ((from', none, m) :: (a.moves ++ ((a.last, none, to) :: b.1))) a.last [] to := .one (by simp)
        simpa using (w0.trans w1).trans w2
      · exact ((h2.ways w).2 h).mono (fun x hx => by simp [hx])
end
end Go.Proofs.Ytiabmdboacpmcaa
