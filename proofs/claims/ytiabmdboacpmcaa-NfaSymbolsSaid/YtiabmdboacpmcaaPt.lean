/- The trees of a row of nodes, and how they lie while they are made. -/
import Derived.Test.YtiabmdboacpmcaaPs
namespace Go.Proofs.Ytiabmdboacpmcaa
open Go Go.RowKit Go.Sort
set_option maxHeartbeats 800000

/-- a node: kind, number, parts -/
abbrev Nd := Int × Int × List Nat
/-- which parts a node takes, by how far behind the next node they stand -/
def picks (R : List Tr) : Nat → Nat → List Nat → List Nat
  | _, _, [] => []
  | _, 0, _ => []
  | sz, l + 1, d :: ds => match R[d % 8]? with
    | none => []
    | some t => if 300 < sz + sizeT t then [] else (d % 8) :: picks R (sz + sizeT t) l ds
def treeOf (R : List Tr) (x : Nd) : Tr := .node x.1 x.2.1 ((picks R 1 3 x.2.2).filterMap (R[·]?))
/-- the trees of each node -/
def trs : List Nd → List Tr
  | [] => []
  | x :: r => treeOf (trs r) x :: trs r
theorem trs_length : ∀ L : List Nd, (trs L).length = L.length
  | [] => rfl
  | x :: r => by rw [trs, List.length_cons, List.length_cons, trs_length r]
theorem trs_drop : ∀ (L : List Nd) (i : Nat), (trs L).drop i = trs (L.drop i)
  | [], i => by simp [trs]
  | x :: r, 0 => rfl
  | x :: r, i + 1 => by rw [trs, List.drop_succ_cons, List.drop_succ_cons, trs_drop r i]
theorem trs_at {L : List Nd} {i : Nat} {x : Nd} (h : L[i]? = some x) : (trs L)[i]? = some (treeOf ((trs L).drop (i + 1)) x) := by
  have hi : i < L.length := (List.getElem?_eq_some_iff.1 h).1
  have h1 := trs_drop L i
  have h2 : L.drop i = x :: L.drop (i + 1) := by
    rw [List.drop_eq_getElem_cons hi]
    rw [List.getElem?_eq_getElem hi] at h
    rw [Option.some.inj h]
  rw [h2, trs, ← trs_drop] at h1
  have h3 : ((trs L).drop i)[0]? = (trs L)[i]? := by rw [List.getElem?_drop]; rfl
  rw [← h3, h1]
  rfl
theorem sizeL_snoc (ts : List Tr) (t : Tr) : sizeL (ts ++ [t]) = sizeL ts + sizeT t := by
  induction ts with
  | nil => simp [sizeL]
  | cons x r ih => rw [List.cons_append, sizeL, sizeL, ih]; omega
theorem picks_fit (R : List Tr) : ∀ (ds : List Nat) (sz l : Nat), sz ≤ 300 → sz + sizeL ((picks R sz l ds).filterMap (R[·]?)) ≤ 300
  | [], sz, l, h => by simp [picks, sizeL]; exact h
  | d :: ds, sz, 0, h => by simp [picks, sizeL]; exact h
  | d :: ds, sz, l + 1, h => by
    rw [picks]
    cases hr : R[d % 8]? with
    | none => simp [sizeL]; exact h
    | some t =>
      simp only
      split
      · simp [sizeL]; exact h
      · have := picks_fit R ds (sz + sizeT t) l (by omega)
        rw [List.filterMap_cons_some hr, sizeL]
        rw [Nat.add_assoc] at this
        exact this
theorem treeOf_size (R : List Tr) (x : Nd) : sizeT (treeOf R x) ≤ 300 := by
  rw [treeOf, sizeT]
  exact picks_fit R x.2.2 1 3 (by decide)
theorem trs_size : ∀ (L : List Nd) (t : Tr), t ∈ trs L → sizeT t ≤ 300
  | [], t, h => by cases h
  | x :: r, t, h => by
    rw [trs] at h
    rcases List.mem_cons.1 h with rfl | h
    · exact treeOf_size _ _
    · exact trs_size r t h

/-- what stands: the picks so far -/
structure Picked (R : List Tr) (ds : List Nat) (j : Nat) (os : List Nat) (ts : List Tr) : Prop where
  len : os.length = j
  tlen : ts.length = j
  le3 : j ≤ 3
  rest : picks R 1 3 ds = os ++ picks R (1 + sizeL ts) (3 - j) (ds.drop j)
  trees : os.filterMap (R[·]?) = ts
  fit : 1 + sizeL ts ≤ 300
theorem picked_nil (R : List Tr) (ds : List Nat) : Picked R ds 0 [] [] := ⟨rfl, rfl, by decide, by simp [sizeL], rfl, by simp [sizeL]⟩
theorem picked_next {R : List Tr} {ds : List Nat} {j d : Nat} {os : List Nat} {ts : List Tr} {t : Tr} (h : Picked R ds j os ts) (hd : ds[j]? = some d) (ht : R[d % 8]? = some t) (h3 : j ≠ 3) (hf : 1 + sizeL ts + sizeT t ≤ 300) : Picked R ds (j + 1) (os ++ [d % 8]) (ts ++ [t]) := by
  have hi : j < ds.length := (List.getElem?_eq_some_iff.1 hd).1
  have hdr : ds.drop j = d :: ds.drop (j + 1) := by
    rw [List.drop_eq_getElem_cons hi]
    rw [List.getElem?_eq_getElem hi] at hd
    rw [Option.some.inj hd]
  refine ⟨by rw [List.length_append, h.len]; rfl, by rw [List.length_append, h.tlen]; rfl, by have := h.le3; omega, ?_, by rw [List.filterMap_append, h.trees]; simp [ht], by rw [sizeL_snoc]; omega⟩
  rw [h.rest, hdr]
  obtain ⟨l, hl⟩ : ∃ l, 3 - j = l + 1 := ⟨2 - j, by have := h.le3; omega⟩
  rw [hl, picks, ht]
  simp only
  rw [if_neg (by omega), sizeL_snoc, show 3 - (j + 1) = l by omega, List.append_assoc, Nat.add_assoc]
  rfl
theorem picked_end {R : List Tr} {ds : List Nat} {j : Nat} {os : List Nat} {ts : List Tr} (h : Picked R ds j os ts) (he : j = ds.length ∨ j = 3 ∨ ∃ d, ds[j]? = some d ∧ (R[d % 8]? = none ∨ ∃ t, R[d % 8]? = some t ∧ 300 < 1 + sizeL ts + sizeT t)) : picks R 1 3 ds = os := by
  rw [h.rest]
  have : picks R (1 + sizeL ts) (3 - j) (ds.drop j) = [] := by
    rcases he with rfl | rfl | ⟨d, hd, he⟩
    · rw [List.drop_length]; cases 3 - ds.length <;> rfl
    · cases ds.drop 3 <;> rfl
    · have hi : j < ds.length := (List.getElem?_eq_some_iff.1 hd).1
      have hdr : ds.drop j = d :: ds.drop (j + 1) := by
        rw [List.drop_eq_getElem_cons hi]
        rw [List.getElem?_eq_getElem hi] at hd
        rw [Option.some.inj hd]
      rw [hdr]
      cases 3 - j with
      | zero => rfl
      | succ l =>
        rw [picks]
        rcases he with h | ⟨t, h, hf⟩
        · rw [h]
        · rw [h]; simp only; rw [if_pos hf]
  rw [this, List.append_nil]

mutual
/-- a path as a struct of three, its parts in rows between lo and H -/
def TX (w : World) (lo H : Nat) : Tr → Value → Value → Value → Prop
  | .node k n ps, a, b, s => a = .int .i64 k ∧ b = .int .i64 n ∧ ∃ A c, s = .slice A ps.length c ∧ (ps ≠ [] → ∃ g, A = some ⟨g, 0, none⟩ ∧ lo ≤ g ∧ g < H ∧ LX w lo H ps g 0)
def LX (w : World) (lo H : Nat) : List Tr → Nat → Nat → Prop
  | [], _, _ => True
  | p :: r, g, o => (∃ a b s, w.cell? ⟨g, o, none⟩ = some a ∧ w.cell? ⟨g, o + 1, none⟩ = some b ∧ w.cell? ⟨g, o + 2, none⟩ = some s ∧ TX w lo H p a b s) ∧ LX w lo H r g (o + 3)
end
mutual
/-- the document's path at a place of its list, its parts in rows between lo and H -/
def TR (w : World) (rb n lo H : Nat) : Tr → Nat → Prop
  | .node k m ps, x => x < n ∧ w.cell? ⟨rb, x * 3, none⟩ = some (.int .i64 k) ∧ w.cell? ⟨rb, x * 3 + 1, none⟩ = some (.int .i64 m) ∧ ∃ A c, w.cell? ⟨rb, x * 3 + 2, none⟩ = some (.slice A ps.length c) ∧ ps.length ≤ c ∧ (ps ≠ [] → ∃ g, A = some ⟨g, 0, none⟩ ∧ lo ≤ g ∧ g < H ∧ LR w rb n lo H ps x g 0)
def LR (w : World) (rb n lo H : Nat) : List Tr → Nat → Nat → Nat → Prop
  | [], _, _, _ => True
  | p :: r, x, g, o => (∃ k : Nat, x < k ∧ w.cell? ⟨g, o, none⟩ = some (.int .i64 (k : Int)) ∧ TR w rb n lo H p k) ∧ LR w rb n lo H r x g (o + 1)
end
/-- the rows between lo and H lie as they lay -/
def SameRows (lo H : Nat) (w w' : World) : Prop := ∀ g o, lo ≤ g → g < H → w'.cell? ⟨g, o, none⟩ = w.cell? ⟨g, o, none⟩
mutual
theorem TX_same {w w' : World} {lo H H' : Nat} (hs : SameRows lo H w w') (hH : H ≤ H') : ∀ (t : Tr) (a b s : Value), TX w lo H t a b s → TX w' lo H' t a b s
  | .node k n ps, a, b, s, h => by
    rw [TX] at h ⊢
    obtain ⟨h1, h2, A, c, h3, h4⟩ := h
    refine ⟨h1, h2, A, c, h3, fun hne => ?_⟩
    obtain ⟨g, h5, h6, h7, h8⟩ := h4 hne
    exact ⟨g, h5, h6, by omega, LX_same hs hH ps g 0 h6 h7 h8⟩
theorem LX_same {w w' : World} {lo H H' : Nat} (hs : SameRows lo H w w') (hH : H ≤ H') : ∀ (ps : List Tr) (g o : Nat), lo ≤ g → g < H → LX w lo H ps g o → LX w' lo H' ps g o
  | [], _, _, _, _, _ => by rw [LX]; trivial
  | p :: r, g, o, h1, h2, h => by
    rw [LX] at h ⊢
    obtain ⟨⟨a, b, s, k1, k2, k3, k4⟩, k5⟩ := h
    exact ⟨⟨a, b, s, (hs g _ h1 h2).trans k1, (hs g _ h1 h2).trans k2, (hs g _ h1 h2).trans k3, TX_same hs hH p a b s k4⟩, LX_same hs hH r g (o + 3) h1 h2 k5⟩
end
mutual
theorem TR_same {w w' : World} {rb n lo H H' i : Nat} (hs : SameRows lo H w w') (hr : ∀ o, i * 3 ≤ o → w'.cell? ⟨rb, o, none⟩ = w.cell? ⟨rb, o, none⟩) (hH : H ≤ H') : ∀ (t : Tr) (x : Nat), i ≤ x → TR w rb n lo H t x → TR w' rb n lo H' t x
  | .node k m ps, x, hx, h => by
    rw [TR] at h ⊢
    obtain ⟨h0, h1, h2, A, c, h3, hc, h4⟩ := h
    refine ⟨h0, (hr _ (by omega)).trans h1, (hr _ (by omega)).trans h2, A, c, (hr _ (by omega)).trans h3, hc, fun hne => ?_⟩
    obtain ⟨g, h5, h6, h7, h8⟩ := h4 hne
    exact ⟨g, h5, h6, by omega, LR_same hs hr hH ps x g 0 hx h6 h7 h8⟩
theorem LR_same {w w' : World} {rb n lo H H' i : Nat} (hs : SameRows lo H w w') (hr : ∀ o, i * 3 ≤ o → w'.cell? ⟨rb, o, none⟩ = w.cell? ⟨rb, o, none⟩) (hH : H ≤ H') : ∀ (ps : List Tr) (x g o : Nat), i ≤ x → lo ≤ g → g < H → LR w rb n lo H ps x g o → LR w' rb n lo H' ps x g o
  | [], _, _, _, _, _, _, _ => by rw [LR]; trivial
  | p :: r, x, g, o, hx, h1, h2, h => by
    rw [LR] at h ⊢
    obtain ⟨⟨k, k1, k2, k3⟩, k5⟩ := h
    exact ⟨⟨k, k1, (hs g _ h1 h2).trans k2, TR_same hs hr hH p k (by omega) k3⟩, LR_same hs hr hH r x g (o + 1) hx h1 h2 k5⟩
end
theorem LX_of {w : World} {lo H : Nat} : ∀ (ps : List Tr) (g o : Nat), (∀ (m : Nat) (t : Tr), ps[m]? = some t → ∃ a b s, w.cell? ⟨g, o + m * 3, none⟩ = some a ∧ w.cell? ⟨g, o + m * 3 + 1, none⟩ = some b ∧ w.cell? ⟨g, o + m * 3 + 2, none⟩ = some s ∧ TX w lo H t a b s) → LX w lo H ps g o
  | [], _, _, _ => by rw [LX]; trivial
  | p :: r, g, o, h => by
    rw [LX]
    refine ⟨by simpa using h 0 p rfl, LX_of r g (o + 3) (fun m t ht => ?_)⟩
    have := h (m + 1) t (by simpa using ht)
    rwa [show o + (m + 1) * 3 = o + 3 + m * 3 by omega] at this
theorem LR_of {w : World} {rb n lo H : Nat} : ∀ (ps : List Tr) (x g o : Nat), (∀ (m : Nat) (t : Tr), ps[m]? = some t → ∃ k : Nat, x < k ∧ w.cell? ⟨g, o + m, none⟩ = some (.int .i64 (k : Int)) ∧ TR w rb n lo H t k) → LR w rb n lo H ps x g o
  | [], _, _, _, _ => by rw [LR]; trivial
  | p :: r, x, g, o, h => by
    rw [LR]
    refine ⟨by simpa using h 0 p rfl, LR_of r x g (o + 1) (fun m t ht => ?_)⟩
    have := h (m + 1) t (by simpa using ht)
    rwa [show o + (m + 1) = o + 1 + m by omega] at this
theorem LR_at {w : World} {rb n lo H : Nat} : ∀ {ps : List Tr} {x g o m : Nat} {t : Tr}, LR w rb n lo H ps x g o → ps[m]? = some t → ∃ k : Nat, x < k ∧ w.cell? ⟨g, o + m, none⟩ = some (.int .i64 (k : Int)) ∧ TR w rb n lo H t k
  | p :: r, x, g, o, 0, t, h, ht => by
    rw [LR] at h
    simp only [List.getElem?_cons_zero, Option.some.injEq] at ht
    subst ht
    simpa using h.1
  | p :: r, x, g, o, m + 1, t, h, ht => by
    rw [LR] at h
    have := LR_at h.2 (by simpa using ht)
    rwa [show o + (m + 1) = o + 1 + m by omega]
mutual
theorem TX_PT {w : World} {lo H : Nat} : ∀ (t : Tr) (a b s : Value) (g o : Nat), TX w lo H t a b s → w.cell? ⟨g, o, none⟩ = some a → w.cell? ⟨g, o + 1, none⟩ = some b → w.cell? ⟨g, o + 2, none⟩ = some s → PT w t g o
  | .node k n ps, a, b, s, g, o, h, ha, hb, hs => by
    rw [TX] at h
    rw [PT]
    obtain ⟨rfl, rfl, A, c, rfl, h4⟩ := h
    refine ⟨ha, hb, A, c, hs, fun hne => ?_⟩
    obtain ⟨g', h5, _, _, h8⟩ := h4 hne
    exact ⟨g', 0, h5, LX_PL ps g' 0 h8⟩
theorem LX_PL {w : World} {lo H : Nat} : ∀ (ps : List Tr) (g o : Nat), LX w lo H ps g o → PL w ps g o
  | [], _, _, _ => by rw [PL]; trivial
  | p :: r, g, o, h => by
    rw [LX] at h
    rw [PL]
    obtain ⟨⟨a, b, s, k1, k2, k3, k4⟩, k5⟩ := h
    exact ⟨TX_PT p a b s g o k4 k1 k2 k3, LX_PL r g (o + 3) k5⟩
end
theorem TX_PV {w : World} {lo H : Nat} {t : Tr} {a b s : Value} (h : TX w lo H t a b s) : PV w t (.agg #[a, b, s]) := by
  cases t with
  | node k n ps =>
    rw [TX] at h
    obtain ⟨rfl, rfl, A, c, rfl, h4⟩ := h
    refine ⟨_, rfl, A, c, rfl, fun hne => ?_⟩
    obtain ⟨g', h5, _, _, h8⟩ := h4 hne
    exact ⟨g', 0, h5, LX_PL ps g' 0 h8⟩

/-- what is made so far: from i on -/
def Done (w : World) (rb pb sb n lo H : Nat) (T : List Tr) (i : Nat) : Prop := ∀ k t, i ≤ k → T[k]? = some t → TR w rb n lo H t k ∧ (∃ a b s, w.cell? ⟨pb, k * 3, none⟩ = some a ∧ w.cell? ⟨pb, k * 3 + 1, none⟩ = some b ∧ w.cell? ⟨pb, k * 3 + 2, none⟩ = some s ∧ TX w lo H t a b s) ∧ w.cell? ⟨sb, k, none⟩ = some (.int .i64 (sizeT t : Int))
theorem done_same {w w' : World} {rb pb sb n lo H H' i : Nat} {T : List Tr} (h : Done w rb pb sb n lo H T i) (hs : SameRows lo H w w') (hr : ∀ o, i * 3 ≤ o → w'.cell? ⟨rb, o, none⟩ = w.cell? ⟨rb, o, none⟩) (hp : ∀ o, i * 3 ≤ o → w'.cell? ⟨pb, o, none⟩ = w.cell? ⟨pb, o, none⟩) (hz : ∀ o, i ≤ o → w'.cell? ⟨sb, o, none⟩ = w.cell? ⟨sb, o, none⟩) (hH : H ≤ H') : Done w' rb pb sb n lo H' T i := by
  intro k t hk ht
  obtain ⟨h1, ⟨a, b, s, k1, k2, k3, k4⟩, h3⟩ := h k t hk ht
  exact ⟨TR_same hs hr hH t k hk h1, ⟨a, b, s, (hp _ (by omega)).trans k1, (hp _ (by omega)).trans k2, (hp _ (by omega)).trans k3, TX_same hs hH t a b s k4⟩, (hz _ hk).trans h3⟩
/-- of the three rows -/
structure Rows3 (w : World) (rb pb sb n lo : Nat) : Prop where
  r : ∃ cs, w.heap[rb]? = some (.cells cs 102 (0, 0)) ∧ cs.size = n * 3
  p : ∃ cs, w.heap[pb]? = some (.cells cs 30 (0, 0)) ∧ cs.size = n * 3
  s : ∃ cs, w.heap[sb]? = some (.cells cs 3 (0, 0)) ∧ cs.size = n
  rl : rb < lo
  pl : pb < lo
  sl : sb < lo
  rp : rb ≠ pb
  rs : rb ≠ sb
  ps : pb ≠ sb
theorem rows3_set {w : World} {rb pb sb n lo b o : Nat} (h : Rows3 w rb pb sb n lo) (u : Value) (hb : b = rb ∨ b = pb ∨ b = sb) : Rows3 (w.setCell ⟨b, o, none⟩ u) rb pb sb n lo := by
  obtain ⟨⟨cr, r1, r2⟩, ⟨cp, p1, p2⟩, ⟨cs, s1, s2⟩, h4, h5, h6, h7, h8, h9⟩ := h
  have far : ∀ g : Nat, g ≠ b → (w.setCell ⟨b, o, none⟩ u).heap[g]? = w.heap[g]? := fun g hg => Below.heap_setCell _ _ _ _ hg
  rcases hb with rfl | rfl | rfl
  · exact ⟨⟨_, heap_setCell_at r1, by simp [r2]⟩, ⟨cp, by rw [far _ h7.symm]; exact p1, p2⟩, ⟨cs, by rw [far _ h8.symm]; exact s1, s2⟩, h4, h5, h6, h7, h8, h9⟩
  · exact ⟨⟨cr, by rw [far _ h7]; exact r1, r2⟩, ⟨_, heap_setCell_at p1, by simp [p2]⟩, ⟨cs, by rw [far _ h9.symm]; exact s1, s2⟩, h4, h5, h6, h7, h8, h9⟩
  · exact ⟨⟨cr, by rw [far _ h8]; exact r1, r2⟩, ⟨cp, by rw [far _ h9]; exact p1, p2⟩, ⟨_, heap_setCell_at s1, by simp [s2]⟩, h4, h5, h6, h7, h8, h9⟩
theorem rows3_upd {fp : Nat → Prop} {w w' : World} {rb pb sb n lo : Nat} (h : Rows3 w rb pb sb n lo) (hu : Upd fp w w') (hf : ∀ b, fp b → lo ≤ b) : Rows3 w' rb pb sb n lo := by
  obtain ⟨⟨cr, r1, r2⟩, ⟨cp, p1, p2⟩, ⟨cs, s1, s2⟩, h4, h5, h6, h7, h8, h9⟩ := h
  have far : ∀ g : Nat, g < lo → g < w.heap.size → w'.heap[g]? = w.heap[g]? := fun g hg hl => hu.block g hl (fun hh => by have := hf g hh; omega)
  exact ⟨⟨cr, (far _ h4 (block_lt r1)).trans r1, r2⟩, ⟨cp, (far _ h5 (block_lt p1)).trans p1, p2⟩, ⟨cs, (far _ h6 (block_lt s1)).trans s1, s2⟩, h4, h5, h6, h7, h8, h9⟩
/-- what is done stays where the rows of node i alone are turned -/
theorem done_set {w : World} {rb pb sb n lo H i b o : Nat} {T : List Tr} (h : Done w rb pb sb n lo H T (i + 1)) (h3 : Rows3 w rb pb sb n lo) (u : Value) (hb : (b = rb ∧ o < (i + 1) * 3) ∨ (b = pb ∧ o < (i + 1) * 3) ∨ (b = sb ∧ o < i + 1)) : Done (w.setCell ⟨b, o, none⟩ u) rb pb sb n lo H T (i + 1) := by
  have hbl : b < lo := by rcases hb with ⟨rfl, _⟩ | ⟨rfl, _⟩ | ⟨rfl, _⟩ <;> first | exact h3.rl | exact h3.pl | exact h3.sl
  have oth : ∀ g o', (g = b → o ≠ o') → (w.setCell ⟨b, o, none⟩ u).cell? ⟨g, o', none⟩ = w.cell? ⟨g, o', none⟩ := fun g o' hh => World.cell?_setCell_other _ _ _ _ (fun e : (⟨b, o, none⟩ : Addr) = ⟨g, o', none⟩ => by
    simp only [Addr.mk.injEq, and_true] at e
    exact hh e.1.symm e.2)
  refine done_same h (fun g o' hg _ => oth g o' (fun e => by omega)) (fun o' ho => oth _ _ (fun e => ?_)) (fun o' ho => oth _ _ (fun e => ?_)) (fun o' ho => oth _ _ (fun e => ?_)) (Nat.le_refl _)
  · have h7 := h3.rp; have h8 := h3.rs; omega
  · have h7 := h3.rp; have h8 := h3.ps; omega
  · have h7 := h3.rs; have h8 := h3.ps; omega
theorem done_upd {fp : Nat → Prop} {w w' : World} {rb pb sb n lo H i : Nat} {T : List Tr} (h : Done w rb pb sb n lo H T i) (h3 : Rows3 w rb pb sb n lo) (hu : Upd fp w w') (hf : ∀ b, fp b → H ≤ b) (hlo : lo ≤ H) (hH : H ≤ w.heap.size) : Done w' rb pb sb n lo H T i := by
  obtain ⟨⟨cr, r1, _⟩, ⟨cp, p1, _⟩, ⟨cs, s1, _⟩, h4, h5, h6, h7, h8, h9⟩ := h3
  have far : ∀ g o : Nat, g < H → w'.cell? ⟨g, o, none⟩ = w.cell? ⟨g, o, none⟩ := fun g o hg => upd_cell hu (by omega) (fun hh => by have := hf g hh; omega) o
  exact done_same h (fun g o _ hg => far g o hg) (fun o _ => far _ o (by omega)) (fun o _ => far _ o (by omega)) (fun o _ => far _ o (by omega)) (Nat.le_refl _)
def i64ok (n : Int) : Prop := -9223372036854775808 ≤ n ∧ n ≤ 9223372036854775807
/-- nodes as they lie, anywhere -/
def RdNd (w : World) (v : Value) (L : List Nd) : Prop := ∃ A c, v = .slice A L.length c ∧ L.length ≤ c ∧ (∀ x ∈ L, i64ok x.1 ∧ i64ok x.2.1 ∧ x.2.2.length ≤ maxLen) ∧ (L ≠ [] → ∃ b off, A = some ⟨b, off, none⟩ ∧ b < w.heap.size ∧ ∀ (i : Nat) (x : Nd), L[i]? = some x →
  w.cell? ⟨b, off + i * 3, none⟩ = some (.int .i64 x.1) ∧ w.cell? ⟨b, off + i * 3 + 1, none⟩ = some (.int .i64 x.2.1) ∧ ∃ s, w.cell? ⟨b, off + i * 3 + 2, none⟩ = some s ∧ RdB w s x.2.2)
theorem rdNd_ext {w w' : World} {v : Value} {L : List Nd} (h : RdNd w v L) (hE : Ext w w') : RdNd w' v L := by
  obtain ⟨A, c, h1, h2, h0, h3⟩ := h
  refine ⟨A, c, h1, h2, h0, fun hne => ?_⟩
  obtain ⟨b, off, h4, h5, h6⟩ := h3 hne
  refine ⟨b, off, h4, ext_lt hE h5, fun i x hx => ?_⟩
  obtain ⟨k1, k2, s, k3, k4⟩ := h6 i x hx
  exact ⟨(ext_cell hE _ _ h5).trans k1, (ext_cell hE _ _ h5).trans k2, s, (ext_cell hE _ _ h5).trans k3, rdB_ext k4 hE⟩
end Go.Proofs.Ytiabmdboacpmcaa
