/- Texts joined: Pb. -/
import Derived.Test.YtiabmdboacpmcaaY01
import Derived.Test.YtiabmdboacpmcaaY06
import Derived.Test.YtiabmdboacpmcaaChecked
/- Paths as they lie in memory. -/
namespace Go.Proofs.Ytiabmdboacpmcaa
open Go Go.RowKit Go.Sort

mutual
/-- a path lies at a place -/
def PT (w : World) : Tr → Nat → Nat → Prop
  | .node k n ps, b, o => w.cell? ⟨b, o, none⟩ = some (.int .i64 k) ∧ w.cell? ⟨b, o + 1, none⟩ = some (.int .i64 n) ∧ ∃ A c, w.cell? ⟨b, o + 2, none⟩ = some (.slice A ps.length c) ∧ (ps ≠ [] → ∃ b' o', A = some ⟨b', o', none⟩ ∧ PL w ps b' o')
def PL (w : World) : List Tr → Nat → Nat → Prop
  | [], _, _ => True
  | p :: r, b, o => PT w p b o ∧ PL w r b (o + 3)
end
/-- a slice of paths -/
def PS (w : World) (ps : List Tr) (v : Value) : Prop := ∃ A c, v = .slice A ps.length c ∧ (ps ≠ [] → ∃ b o, A = some ⟨b, o, none⟩ ∧ PL w ps b o)
/-- a path as a value -/
def PV (w : World) (t : Tr) (v : Value) : Prop := match t with | .node k n ps => ∃ s, v = .agg #[.int .i64 k, .int .i64 n, s] ∧ PS w ps s
mutual
theorem PT_ext {w w' : World} (hE : Ext w w') : ∀ (t : Tr) (b o : Nat), PT w t b o → PT w' t b o
  | .node k n ps, b, o, h => by
    rw [PT] at h ⊢
    obtain ⟨h1, h2, A, c, h3, h4⟩ := h
    have hb := World.block_lt_of_cell? _ _ h1
    refine ⟨(ext_cell hE _ _ hb).trans h1, (ext_cell hE _ _ hb).trans h2, A, c, (ext_cell hE _ _ hb).trans h3, fun hne => ?_⟩
    obtain ⟨b', o', h5, h6⟩ := h4 hne
    exact ⟨b', o', h5, PL_ext hE ps b' o' h6⟩
theorem PL_ext {w w' : World} (hE : Ext w w') : ∀ (ps : List Tr) (b o : Nat), PL w ps b o → PL w' ps b o
  | [], _, _, _ => by rw [PL]; trivial
  | p :: r, b, o, h => by
    rw [PL] at h ⊢
    exact ⟨PT_ext hE p b o h.1, PL_ext hE r b (o + 3) h.2⟩
end
theorem PS_ext {w w' : World} {ps : List Tr} {v : Value} (h : PS w ps v) (hE : Ext w w') : PS w' ps v := by
  obtain ⟨A, c, h1, h2⟩ := h
  refine ⟨A, c, h1, fun hne => ?_⟩
  obtain ⟨b, o, h3, h4⟩ := h2 hne
  exact ⟨b, o, h3, PL_ext hE _ _ _ h4⟩
theorem PV_ext {w w' : World} {t : Tr} {v : Value} (h : PV w t v) (hE : Ext w w') : PV w' t v := by
  cases t with
  | node k n ps =>
    obtain ⟨s, h1, h2⟩ := h
    exact ⟨s, h1, PS_ext h2 hE⟩
theorem PL_at {w : World} : ∀ {ps : List Tr} {b o i : Nat} {p : Tr}, PL w ps b o → ps[i]? = some p → PT w p b (o + i * 3)
  | p :: r, b, o, 0, q, h, hi => by
    rw [PL] at h
    simp only [List.getElem?_cons_zero, Option.some.injEq] at hi
    subst hi
    simpa using h.1
  | p :: r, b, o, i + 1, q, h, hi => by
    rw [PL] at h
    have := PL_at h.2 (by simpa using hi)
    rwa [show o + (i + 1) * 3 = o + 3 + i * 3 by omega]
theorem PS_at {w : World} {A : Option Addr} {n c i : Nat} {ps : List Tr} {p : Tr} (h : PS w ps (.slice A n c)) (hi : ps[i]? = some p) : ∃ b o, A = some ⟨b, o, none⟩ ∧ b < w.heap.size ∧ PT w p b (o + i * 3) := by
  obtain ⟨A', c', h1, h2⟩ := h
  simp only [Value.slice.injEq] at h1
  obtain ⟨rfl, -, -⟩ := h1
  obtain ⟨b, o, h3, h4⟩ := h2 (fun e => by rw [e] at hi; simp at hi)
  have h5 := PL_at h4 hi
  refine ⟨b, o, h3, ?_, h5⟩
  cases p with
  | node k n qs =>
    rw [PT] at h5
    exact World.block_lt_of_cell? _ _ h5.1
/-- what is loaded from a place -/
theorem PT_val {w : World} {k n : Int} {ps : List Tr} {b o : Nat} (h : PT w (.node k n ps) b o) : ∃ s, w.cell? ⟨b, o, none⟩ = some (.int .i64 k) ∧ w.cell? ⟨b, o + 1, none⟩ = some (.int .i64 n) ∧ w.cell? ⟨b, o + 2, none⟩ = some s ∧ PS w ps s ∧ b < w.heap.size := by
  rw [PT] at h
  obtain ⟨h1, h2, A, c, h3, h4⟩ := h
  exact ⟨_, h1, h2, h3, ⟨A, c, rfl, h4⟩, World.block_lt_of_cell? _ _ h1⟩
theorem PS_form {w : World} {ps : List Tr} {v : Value} (h : PS w ps v) : ∃ A c, v = .slice A ps.length c := by
  obtain ⟨A, c, h1, _⟩ := h
  exact ⟨A, c, h1⟩

mutual
def sizeT : Tr → Nat
  | .node _ _ ps => 1 + sizeL ps
def sizeL : List Tr → Nat
  | [] => 0
  | p :: r => sizeT p + sizeL r
end
mutual
def deepB : Tr → Int → Bool
  | .node _ _ ps, l => decide (0 < l) && deepL ps (l - 1)
def deepL : List Tr → Int → Bool
  | [], _ => true
  | p :: r, l => deepB p l && deepL r l
end
mutual
def formB : Tr → Bool
  | .node k n ps => if k = 0 ∨ k = 1 then decide (ps = []) && decide (0 ≤ n) else if k = 2 ∨ k = 3 then !decide (ps = []) && formL ps else if k = 4 ∨ k = 5 ∨ k = 6 then decide (ps.length = 1) && formL ps else false
def formL : List Tr → Bool
  | [] => true
  | p :: r => formB p && formL r
end
def chk (t : Tr) : Int := if deepB t 40 then if 200 < sizeT t then 13 else if formB t then 0 else 1 else 15
end Go.Proofs.Ytiabmdboacpmcaa
