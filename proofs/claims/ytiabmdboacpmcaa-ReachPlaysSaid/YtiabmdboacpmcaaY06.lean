/- Texts joined: Gr. -/
import Derived.ArgAppend
import Derived.Deep.Upon
import Derived.Deep.AppendLies
import Derived.Test.YtiabmdboacpmcaaY04
import Derived.Test.YtiabmdboacpmcaaY02
/- Rows of elements of any kind: how they lie, what append makes of them. -/
namespace Go.Proofs.Ytiabmdboacpmcaa
open Go Go.RowKit Go.Sort

/-- how an element lies: its cells -/
structure El (α : Type) where
  enc : α → List Value
  size : Nat
  ty : TypeId
  hs : 0 < size
  hl : ∀ x, (enc x).length = size
  h1 : ∀ x, ∀ u ∈ enc x, u.oneCell' = true

section
variable {α : Type} (E : El α)
def flatE (L : List α) : List Value := L.flatMap E.enc
theorem flatE_nil : flatE E [] = [] := rfl
theorem flatE_cons (x : α) (L : List α) : flatE E (x :: L) = E.enc x ++ flatE E L := by simp [flatE]
theorem flatE_append (L M : List α) : flatE E (L ++ M) = flatE E L ++ flatE E M := by simp [flatE]
theorem flatE_length (L : List α) : (flatE E L).length = L.length * E.size := by
  induction L with
  | nil => simp [flatE]
  | cons x L ih => rw [flatE_cons, List.length_append, E.hl, ih, List.length_cons, Nat.add_mul, Nat.one_mul, Nat.add_comm]
theorem flatE_take (L : List α) (i : Nat) : flatE E (L.take i) = (flatE E L).take (i * E.size) := by
  induction L generalizing i with
  | nil => simp [flatE]
  | cons x L ih =>
    cases i with
    | zero => simp [flatE]
    | succ i =>
      have e : (E.enc x).length ≤ i * E.size + E.size := by rw [E.hl]; omega
      rw [List.take_succ_cons, flatE_cons, flatE_cons, ih, Nat.add_mul, Nat.one_mul, List.take_append, List.take_of_length_le e, E.hl, Nat.add_sub_cancel]
theorem flatE_drop (L : List α) (i : Nat) : flatE E (L.drop i) = (flatE E L).drop (i * E.size) := by
  induction L generalizing i with
  | nil => simp [flatE]
  | cons x L ih =>
    cases i with
    | zero => simp
    | succ i =>
      have e : (E.enc x).length ≤ i * E.size + E.size := by rw [E.hl]; omega
      rw [List.drop_succ_cons, flatE_cons, ih, Nat.add_mul, Nat.one_mul, List.drop_append, List.drop_eq_nil_of_le e, List.nil_append, E.hl, Nat.add_sub_cancel]
theorem flatE_one (L : List α) : ∀ u ∈ flatE E L, u.oneCell' = true := by
  intro u hu
  simp only [flatE, List.mem_flatMap] at hu
  obtain ⟨x, _, hx⟩ := hu
  exact E.h1 x u hx
theorem flatE_at (L : List α) (i : Nat) (x : α) (hx : L[i]? = some x) (j : Nat) (hj : j < E.size) : (flatE E L)[i * E.size + j]? = (E.enc x)[j]? := by
  have h1 := flatE_drop E L i
  have hi : i < L.length := (List.getElem?_eq_some_iff.1 hx).1
  have h2 : L.drop i = x :: L.drop (i + 1) := by
    rw [List.drop_eq_getElem_cons hi]
    rw [List.getElem?_eq_getElem hi] at hx
    rw [Option.some.inj hx]
  rw [← List.getElem?_drop, ← h1, h2, flatE_cons, List.getElem?_append_left (by rw [E.hl]; exact hj)]
theorem flatE_single (x : α) : flatE E [x] = E.enc x := by simp [flatE]

/-- a row -/
def rowE (w : World) (v : Value) (L : List α) : Prop := w.ownsRow 0 E.ty E.size v L.length (flatE E L)
variable {E}
theorem rowE_cases {w : World} {v : Value} {L : List α} (h : rowE E w v L) : (v = .slice none 0 0 ∧ L = []) ∨ ∃ g cap cur, v = .slice (some ⟨g, 0, none⟩) L.length cap ∧ w.heap[g]? = some (.cells cur E.ty (0, 0)) ∧ L.length ≤ cap ∧ cap ≤ maxLen ∧ cur.size = cap * E.size ∧ cur.toList.take (L.length * E.size) = flatE E L := by
  rcases h.2 with ⟨h1, h2⟩ | ⟨g, cap, cur, h1, _, h2, h3, h4, h5, h6⟩
  · exact .inl ⟨h1, List.eq_nil_of_length_eq_zero h2⟩
  · exact .inr ⟨g, cap, cur, h1, h2, h3, h4, h5, h6⟩
theorem rowE_nil (w : World) : rowE E w (.slice none 0 0) [] := ⟨by simp [flatE], .inl ⟨rfl, rfl⟩⟩
theorem rowE_form {w : World} {v : Value} {L : List α} (h : rowE E w v L) : ∃ A c, v = .slice A L.length c := by
  rcases rowE_cases h with ⟨h1, h2⟩ | ⟨_, _, _, h1, _⟩
  · exact ⟨_, _, by rw [h2]; exact h1⟩
  · exact ⟨_, _, h1⟩
theorem rowE_some {w : World} {A : Option Addr} {n c : Nat} {L : List α} (h : rowE E w (.slice A n c) L) (hne : L ≠ []) : ∃ g, A = some ⟨g, 0, none⟩ ∧ g < w.heap.size := by
  rcases rowE_cases h with ⟨_, h2⟩ | ⟨g, cap, cur, h1, hg, _⟩
  · exact absurd h2 hne
  · simp only [Value.slice.injEq] at h1
    exact ⟨g, h1.1, block_lt hg⟩
theorem rowE_cap {w : World} {A : Option Addr} {n c : Nat} {L : List α} (h : rowE E w (.slice A n c) L) : n = L.length ∧ n ≤ c := by
  rcases rowE_cases h with ⟨h1, h2⟩ | ⟨_, _, _, h1, _, h2, _⟩
  · simp only [Value.slice.injEq] at h1; rw [h1.2.1, h1.2.2, h2]; exact ⟨rfl, Nat.le_refl _⟩
  · simp only [Value.slice.injEq] at h1; rw [h1.2.1, h1.2.2]; exact ⟨rfl, h2⟩
theorem rowE_ext {w w' : World} {v : Value} {L : List α} (h : rowE E w v L) (hE : Ext w w') : rowE E w' v L := row_ext h hE
theorem rowE_upd {fp : Nat → Prop} {w w' : World} {v : Value} {L : List α} (h : rowE E w v L) (hu : Upd fp w w') (hn : ∀ b, v.ownBlock = some b → ¬ fp b) : rowE E w' v L := row_upd h hu hn
theorem rowE_block {w : World} {v : Value} {L : List α} (h : rowE E w v L) {g : Nat} (hg : v.ownBlock = some g) : g < w.heap.size ∧ ∃ cur, w.heap[g]? = some (.cells cur E.ty (0, 0)) := by
  rcases rowE_cases h with ⟨rfl, _⟩ | ⟨g', cap, cur, rfl, h2, _⟩
  · cases hg
  · cases hg; exact ⟨block_lt h2, cur, h2⟩
theorem rowE_off {w : World} {v : Value} {L : List α} (h : rowE E w v L) {b : Nat} {cs : Array Value} {t : TypeId} {fr : Nat × Nat} (hb : w.heap[b]? = some (.cells cs t fr)) (ht : t ≠ E.ty) : v.ownBlock ≠ some b := fun e => by
  obtain ⟨_, cur, h1⟩ := rowE_block h e
  rw [hb] at h1
  simp only [Option.some.injEq, Obj.cells.injEq] at h1
  exact ht h1.2.1
theorem addr_add0 (g i j : Nat) : (⟨g, i, none⟩ : Addr).add j = ⟨g, i + j, none⟩ := by
  unfold Addr.add; split <;> simp_all
theorem rowE_cell {w : World} {g n c : Nat} {L : List α} (h : rowE E w (.slice (some ⟨g, 0, none⟩) n c) L) {i : Nat} {x : α} (hx : L[i]? = some x) {j : Nat} {u : Value} (hu : (E.enc x)[j]? = some u) : w.cell? ⟨g, i * E.size + j, none⟩ = some u := by
  have hi : i < L.length := (List.getElem?_eq_some_iff.1 hx).1
  have hj : j < E.size := by rw [← E.hl x]; exact (List.getElem?_eq_some_iff.1 hu).1
  have hij : i * E.size + j < L.length * E.size := by
    have : (i + 1) * E.size ≤ L.length * E.size := Nat.mul_le_mul_right _ hi
    rw [Nat.add_mul, Nat.one_mul] at this
    omega
  rcases rowE_cases h with ⟨h1, _⟩ | ⟨g', cap, cur, h1, h2, _, _, _, h6⟩
  · cases h1
  · simp only [Value.slice.injEq, Option.some.injEq, Addr.mk.injEq, and_true] at h1
    obtain ⟨rfl, -, -⟩ := h1
    have h7 : (cur.toList.take (L.length * E.size))[i * E.size + j]? = (flatE E L)[i * E.size + j]? := by rw [h6]
    rw [List.getElem?_take, if_pos hij, flatE_at E L i x hx j hj, hu] at h7
    rw [block_cell h2, ← Array.getElem?_toList]
    exact h7

/-- a row that lies at or beyond a place -/
def rowF (E : El α) (H : Nat) (L : List α) (v : Value) (w : World) : Prop := rowE E w v L ∧ ∀ g, v.ownBlock = some g → H ≤ g
theorem rowF_ext {H : Nat} {L : List α} (v : Value) (w w' : World) (hE : Ext w w') (h : rowF E H L v w) : rowF E H L v w' := ⟨row_ext h.1 hE, h.2⟩
theorem rowF_nil (H : Nat) (w : World) : rowF E H [] (.slice none 0 0) w := ⟨rowE_nil w, fun g h => by cases h⟩
theorem rowF_low {H H' : Nat} {L : List α} {v : Value} {w : World} (h : rowF E H L v w) (hh : H' ≤ H) : rowF E H' L v w := ⟨h.1, fun g hg => Nat.le_trans hh (h.2 g hg)⟩
/-- a fresh row of none, without room -/
def noneF (E : El α) (H : Nat) (v : Value) (w : World) : Prop := ∃ g, v = .slice (some ⟨g, 0, none⟩) 0 0 ∧ H ≤ g ∧ w.heap[g]? = some (.cells #[] E.ty (0, 0))
theorem noneF_ext {H : Nat} (v : Value) (w w' : World) (hE : Ext w w') (h : noneF E H v w) : noneF E H v w' := by
  obtain ⟨g, h1, h2, h3⟩ := h
  exact ⟨g, h1, h2, (ext_block hE (block_lt h3)).trans h3⟩
theorem noneF_row {H : Nat} {v : Value} {w : World} (h : noneF E H v w) : rowF E H [] v w := by
  obtain ⟨g, rfl, h2, h3⟩ := h
  exact ⟨⟨by simp [flatE], .inr ⟨g, 0, #[], rfl, Nat.zero_le _, h3, Nat.le_refl _, by decide, by simp, by simp [flatE]⟩⟩, fun g' hg => by cases hg; exact h2⟩
/-- a fresh row of one -/
def oneF (E : El α) (H : Nat) (x : α) (v : Value) (w : World) : Prop := ∃ g, v = .slice (some ⟨g, 0, none⟩) 1 1 ∧ H ≤ g ∧ w.heap[g]? = some (.cells (E.enc x).toArray E.ty (0, 0))
theorem oneF_ext {H : Nat} {x : α} (v : Value) (w w' : World) (hE : Ext w w') (h : oneF E H x v w) : oneF E H x v w' := by
  obtain ⟨g, h1, h2, h3⟩ := h
  exact ⟨g, h1, h2, (ext_block hE (block_lt h3)).trans h3⟩

theorem ext_grown_none {w w' : World} (h : w.grownBy w' none) : Ext w w' := (Below.refl w.heap.size w).grown h (Nat.le_refl _) (fun k e => by cases e)
theorem row_base {w : World} {H base : Nat} {L : List α} {v : Value} {n : Nat} {xs : List Value} (h : w.ownsRow base E.ty E.size v n xs) (hn : n = L.length) (hx : xs = flatE E L) (hH : H ≤ base) : rowF E H L v w := by
  subst hn hx
  refine ⟨⟨h.1, ?_⟩, fun g hg => Nat.le_trans hH (World.ownsRow.lt h g hg).1⟩
  rcases h.2 with h2 | ⟨g, cap, cur, h1, h2, h3⟩
  · exact .inl h2
  · exact .inr ⟨g, cap, cur, h1, Nat.zero_le _, h3⟩
theorem flat_news {w : World} {g : Nat} {cur : Array Value} {t : TypeId} {L : List α} (hg : w.heap[g]? = some (.cells cur t (0, 0))) (h4 : cur.toList.take (L.length * E.size) = flatE E L) : ∀ j u, (flatE E L)[j]? = some u → w.cell? ((⟨g, 0, none⟩ : Addr).add j) = some u := fun j u hu => by
  refine World.news_of_block hg j u ?_
  rw [← h4, List.getElem?_take] at hu
  split at hu
  · exact hu
  · cases hu

/-- a part of a row, wherever it begins -/
def SrcOf (E : El α) (w : World) (xv : Value) (L : List α) : Prop := ∃ A c, xv = .slice A L.length c ∧ (L ≠ [] → ∃ ad, A = some ad ∧ ∀ j u, (flatE E L)[j]? = some u → w.cell? (Addr.add ad j) = some u)
theorem srcOf_nil (w : World) (A : Option Addr) (c : Nat) : SrcOf E w (.slice A 0 c) [] := ⟨A, c, rfl, fun h => absurd rfl h⟩
theorem srcOf_row {w : World} {v : Value} {L : List α} (h : rowE E w v L) : SrcOf E w v L := by
  rcases rowE_cases h with ⟨rfl, rfl⟩ | ⟨g, cap, cur, rfl, hg, _, _, _, h4⟩
  · exact ⟨none, 0, rfl, fun h => absurd rfl h⟩
  · exact ⟨_, _, rfl, fun _ => ⟨_, rfl, flat_news hg h4⟩⟩
theorem srcOf_one {w : World} {H : Nat} {v : Value} {x : α} (h : oneF E H x v w) : SrcOf E w v [x] := by
  obtain ⟨g, rfl, _, h3⟩ := h
  refine ⟨_, _, rfl, fun _ => ⟨_, rfl, fun j u hu => World.news_of_block h3 j u ?_⟩⟩
  rw [flatE_single] at hu
  exact hu
theorem srcOf_drop {w : World} {g cap : Nat} {L : List α} {n : Nat} (i : Nat) (h : rowE E w (.slice (some ⟨g, 0, none⟩) n cap) L) (A : Option Addr) (m c : Nat) (hm : L.length - i = m) (hA : i < L.length → A = some ⟨g, i * E.size, none⟩) : SrcOf E w (.slice A m c) (L.drop i) := by
  rcases rowE_cases h with ⟨h1, _⟩ | ⟨g', cap', cur, h1, hg, _, _, _, h4⟩
  · cases h1
  · simp only [Value.slice.injEq, Option.some.injEq, Addr.mk.injEq, and_true] at h1
    obtain ⟨rfl, -, -⟩ := h1
    refine ⟨A, c, by rw [List.length_drop, hm], fun hne => ⟨⟨g, i * E.size, none⟩, hA ?_, fun j u hu => ?_⟩⟩
    · rcases Nat.lt_or_ge i L.length with h | h
      · exact h
      · exact absurd (List.drop_eq_nil_of_le h) hne
    · rw [flatE_drop, List.getElem?_drop] at hu
      have := flat_news hg h4 (i * E.size + j) u hu
      rw [addr_add0, Nat.zero_add] at this
      rw [addr_add0]
      exact this
theorem srcOf_take {w : World} {A : Option Addr} {n c : Nat} {L : List α} (i : Nat) (hi : i ≤ L.length) (h : rowE E w (.slice A n c) L) (c' : Nat) : SrcOf E w (.slice A i c') (L.take i) := by
  refine ⟨A, c', by rw [List.length_take, Nat.min_eq_left hi], fun hne => ?_⟩
  rcases rowE_cases h with ⟨_, rfl⟩ | ⟨g, cap, cur, h1, hg, _, _, _, h4⟩
  · simp at hne
  · simp only [Value.slice.injEq] at h1
    obtain ⟨rfl, -, -⟩ := h1
    refine ⟨_, rfl, fun j u hu => flat_news hg h4 j u ?_⟩
    rw [flatE_take, List.getElem?_take] at hu
    split at hu
    · exact hu
    · cases hu
theorem srcOf_ext {w w' : World} {xv : Value} {L : List α} (hE : Ext w w') (h : SrcOf E w xv L) : SrcOf E w' xv L := by
  obtain ⟨A, c, h1, h2⟩ := h
  refine ⟨A, c, h1, fun hne => ?_⟩
  obtain ⟨ad, h3, h4⟩ := h2 hne
  refine ⟨ad, h3, fun j u hu => ?_⟩
  have h5 := h4 j u hu
  have hb : (Addr.add ad j).block = ad.block := by unfold Addr.add; split <;> rfl
  have hlt : (Addr.add ad j).block < w.heap.size := World.block_lt_of_cell? _ _ h5
  exact (World.cell?_of_block (w := w) (a := Addr.add ad j) (ext_block hE hlt)).trans h5
end

/-- what append asks of the types -/
structure Tp (P : Program) (t : TypeId) {α : Type} (E : El α) where
  i : TypeInfo
  z : Value
  bytes : Nat
  hu : P.underlying t = some (.slice E.ty)
  hi : P.info? E.ty = some i
  hz : i.zero = some z
  hsz : i.size = E.size
  hby : i.bytes = bytes
  hzc : z.cells.size = E.size
  hb : bytes ≤ 10000

section
variable {P : Program} {α : Type} {E : El α} {t : TypeId}
/-- append, where there is no room: all lies anew -/
theorem append_full (T : Tp P t E) (ty : TypeId) (A : Option Addr) (L M : List α) (w : World) (H : Nat) (sv xv : Value) (hsv : sv = .slice A L.length L.length) (hr : SrcOf E w sv L) (hx : SrcOf E w xv M) (hM : M ≠ []) (hm : L.length + M.length ≤ 1000000000) (hH : H ≤ w.heap.size) :
    ∃ v' w', (Builtin.append_ #[t, t] ty #[sv, xv]).run P w = .ok v' w' ∧ Ext w w' ∧ rowF E H (L ++ M) v' w' := by
  have hbb : (L.length + M.length) * T.bytes ≤ 140737488355328 := Nat.le_trans (Nat.mul_le_mul hm T.hb) (by decide)
  have hml : L.length + M.length ≤ maxLen := by unfold maxLen; omega
  obtain ⟨A', c', h1, h2⟩ := hr
  rw [h1] at hsv
  simp only [Value.slice.injEq] at hsv
  obtain ⟨rfl, -, rfl⟩ := hsv
  subst h1
  obtain ⟨B, c, rfl, hB⟩ := hx
  obtain ⟨ad, rfl, hn⟩ := hB hM
  have hM0 : 0 < M.length := List.length_pos_iff.2 hM
  cases A' with
  | none =>
    have hL : L = [] := Classical.byContradiction fun hne => by obtain ⟨ad, h, _⟩ := h2 hne; cases h
    subst hL
    obtain ⟨v', w', hrun, hown, hgr, _⟩ := run_append_own (P := P) w w.heap.size t ty E.ty T.i T.z E.size T.bytes T.hu T.hi T.hz T.hsz T.hby T.hzc E.hs (.slice none 0 0) 0 [] (World.ownsRow_nil w _ E.ty E.size) ad M.length c (flatE E M) (flatE_length E M) hn (flatE_one E M) (by simpa using hml) (by simpa using hbb) (Nat.le_refl _)
    exact ⟨v', w', hrun, ext_grown_none hgr, row_base hown (by simp) (by simp) hH⟩
  | some b =>
    have hc : ∀ j u, (flatE E L)[j]? = some u → w.cell? (Addr.add b j) = some u := by
      intro j u hu
      have hne : L ≠ [] := fun e => by subst e; simp [flatE] at hu
      obtain ⟨ad', h, h3⟩ := h2 hne
      cases h
      exact h3 j u hu
    obtain ⟨v', w', hrun, hown, hgr⟩ := run_append_arg_grows (P := P) w t ty E.ty T.i T.z E.size T.bytes T.hu T.hi T.hz T.hsz T.hby T.hzc E.hs b L.length L.length (flatE E L) (flatE_length E L) hc ad M.length c (flatE E M) (flatE_length E M) hn (by omega) hml hbb
    exact ⟨v', w', hrun, ext_grown_none hgr, row_base hown (by simp) (by rw [flatE_append]) hH⟩
/-- append of nothing -/
theorem append_none (T : Tp P t E) (ty : TypeId) (A : Option Addr) (n c : Nat) (hnc : n ≤ c) (w : World) (B : Option Addr) (c' : Nat) :
    (Builtin.append_ #[t, t] ty #[.slice A n c, .slice B 0 c']).run P w = .ok (.slice A n c) w := by
  have hsrc : Src P T.i.size t (.slice B 0 c') 0 [] w := by
    cases B with
    | none => exact Src.ofNil w T.hu c'
    | some b => exact Src.ofSlice w T.hu b 0 c' [] (by simp) (fun j u h => by simp at h) (fun _ h => by cases h)
  exact run_append_nothing (P := P) w t t ty E.ty T.i T.hu T.hi A n c hnc (.slice B 0 c') hsrc
/-- append([]T{}, x...) -/
theorem append_copy (T : Tp P t E) (ty : TypeId) (H : Nat) (sv xv : Value) (L : List α) (w : World) (hs : noneF E H sv w) (hr : SrcOf E w xv L) (hm : L.length ≤ 1000000000) :
    ∃ v' w', (Builtin.append_ #[t, t] ty #[sv, xv]).run P w = .ok v' w' ∧ Ext w w' ∧ rowF E H L v' w' := by
  cases L with
  | nil =>
    obtain ⟨B, c, rfl, _⟩ := hr
    have hrow := noneF_row hs
    obtain ⟨g0, rfl, _, h0⟩ := hs
    exact ⟨_, _, append_none T ty _ 0 0 (Nat.le_refl _) w B c, ext_refl _, hrow⟩
  | cons x L =>
    have hrow := noneF_row hs
    obtain ⟨g0, rfl, h1, h0⟩ := hs
    have := append_full T ty (some ⟨g0, 0, none⟩) [] (x :: L) w H (.slice (some ⟨g0, 0, none⟩) 0 0) xv rfl (srcOf_nil _ _ _) hr (by simp) (by simpa using hm) (Nat.le_trans h1 (Nat.le_of_lt (block_lt h0)))
    simpa using this

theorem runs_append {o : Oper} {a : Act} {w : World} {sv xv : Value} {R : Value → World → Prop} (s x : Operand) (ho : o.op = .call { callee := .builtin .append, args := #[s, x], argTypes := #[t, t] }) (hs : a.eval s = sv) (hx : a.eval x = xv)
    (h : ∃ v' w', (Builtin.append_ #[t, t] o.type #[sv, xv]).run P w = .ok v' w' ∧ R v' w') : runsAt P o a R w := by
  obtain ⟨v', w', hrun, hR⟩ := h
  unfold runsAt
  simp [execOp, ho, resolve, invoke, builtin, hs, hx, hrun, Result.andThen]
  exact hR
theorem wpList_append {ops : Array Oper} {rest : List Oper} {o : Oper} {a : Act} {w : World} {Q : Exit → Act → World → Prop} (hgd : o.guard = none) (s x : Operand) (ho : o.op = .call { callee := .builtin .append, args := #[s, x], argTypes := #[t, t] })
    (sv xv : Value) (hs : a.eval s = sv) (hx : a.eval x = xv) (R : Value → World → Prop) (hr : ∃ v' w', (Builtin.append_ #[t, t] o.type #[sv, xv]).run P w = .ok v' w' ∧ R v' w')
    (h : ∀ v' w', R v' w' → wpList P ops Q rest (a.put o.dst v') w') : wpList P ops Q (o :: rest) a w := by
  obtain ⟨v', w', hrun, hR⟩ := hr
  refine wpList_plain hgd fun K hK => ?_
  unfold Oper.wp
  simp [execOp, ho, resolve, invoke, builtin, hs, hx, hrun, Result.andThen]
  exact hK _ _ (h _ _ hR)

/-- append to a row that is owned, with room or without -/
theorem append_onto (T : Tp P t E) (ty : TypeId) (H : Nat) (v xv : Value) (L M : List α) (w : World) (hv : rowF E H L v w) (hx : SrcOf E w xv M) (hm : L.length + M.length ≤ 1000000000) (hH : H ≤ w.heap.size) :
    ∃ v' w', (Builtin.append_ #[t, t] ty #[v, xv]).run P w = .ok v' w' ∧ rowF E H (L ++ M) v' w' ∧ w.grownBy w' v.ownBlock := by
  have hbb : (L.length + M.length) * T.bytes ≤ 140737488355328 := Nat.le_trans (Nat.mul_le_mul hm T.hb) (by decide)
  have hml : L.length + M.length ≤ maxLen := by unfold maxLen; omega
  cases M with
  | nil =>
    obtain ⟨B, c, rfl, _⟩ := hx
    obtain ⟨A, c1, hv1⟩ := rowE_form hv.1
    subst hv1
    refine ⟨_, _, append_none T ty A L.length c1 (rowE_cap hv.1).2 w B c, by rw [List.append_nil]; exact hv, World.grownBy.refl w _⟩
  | cons x M =>
    obtain ⟨B, c, rfl, hB⟩ := hx
    obtain ⟨ad, rfl, hn⟩ := hB (by simp)
    have hown : w.ownsRow H E.ty E.size v L.length (flatE E L) := by
      refine ⟨hv.1.1, ?_⟩
      rcases hv.1.2 with h | ⟨g, cap, cur, h1, _, h3⟩
      · exact .inl h
      · exact .inr ⟨g, cap, cur, h1, hv.2 g (by rw [h1]; rfl), h3⟩
    obtain ⟨v', w', hrun, hown', hgr, _⟩ := run_append_own (P := P) w H t ty E.ty T.i T.z E.size T.bytes T.hu T.hi T.hz T.hsz T.hby T.hzc E.hs v L.length (flatE E L) hown ad (x :: M).length c (flatE E (x :: M)) (flatE_length E _) hn (flatE_one E _) hml hbb hH
    exact ⟨v', w', hrun, row_base hown' (by simp) (by rw [flatE_append]) (Nat.le_refl _), hgr⟩
theorem ext_grown {W w w' : World} {H : Nat} {v : Value} (hE : Ext W w) (hg : w.grownBy w' v.ownBlock) (hv : ∀ g, v.ownBlock = some g → H ≤ g) (hH : W.heap.size ≤ H) : Ext W w' :=
  Below.grown hE hg (ext_size hE) (fun g e => Nat.le_trans hH (hv g e))
end
end Go.Proofs.Ytiabmdboacpmcaa
