/- Turned: the walk. -/
import Derived.Test.YtiabmdboacpmcaaQi
import Derived.Test.YtiabmdboacpmcaaQf
namespace Go.Proofs.Ytiabmdboacpmcaa
open Go Go.RowKit Go.Sort
set_option maxHeartbeats 2000000

def pav (y : PaV) : Value := .agg #[.int .i64 y.1, .int .i64 y.2.1, slv y.2.2]
theorem PT_of {w : World} {t : Tr} {y : PaV} {g o : Nat} (h : PV w t (pav y)) (h1 : w.cell? ⟨g, o, none⟩ = some (.int .i64 y.1)) (h2 : w.cell? ⟨g, o + 1, none⟩ = some (.int .i64 y.2.1)) (h3 : w.cell? ⟨g, o + 2, none⟩ = some (slv y.2.2)) : PT w t g o := by
  cases t with
  | node k n ps =>
    obtain ⟨s, hs, A, c, rfl, hp⟩ := h
    simp only [pav, Value.agg.injEq, Array.mk.injEq, List.cons.injEq, Value.int.injEq, true_and, and_true] at hs
    obtain ⟨e1, e2, e3⟩ := hs
    rw [PT]
    rw [e1] at h1
    rw [e2] at h2
    rw [e3] at h3
    exact ⟨h1, h2, A, c, h3, hp⟩
theorem PL_of {w : World} : ∀ (ps : List Tr) (g o : Nat), (∀ (m : Nat) (t : Tr), ps[m]? = some t → PT w t g (o + m * 3)) → PL w ps g o
  | [], _, _, _ => by rw [PL]; trivial
  | p :: r, g, o, h => by
    rw [PL]
    refine ⟨by simpa using h 0 p rfl, PL_of r g (o + 3) (fun m t ht => ?_)⟩
    have := h (m + 1) t (by simpa using ht)
    rwa [show o + (m + 1) * 3 = o + 3 + m * 3 by omega] at this
/-- a path's value that hangs on some blocks alone -/
def PVk (w : World) (P : Nat → Prop) (t : Tr) (v : Value) : Prop := ∀ w' : World, w.heap.size ≤ w'.heap.size → (∀ b, b < w.heap.size → P b → w'.heap[b]? = w.heap[b]?) → PV w' t v
theorem pvk_pv {w : World} {P : Nat → Prop} {t : Tr} {v : Value} (h : PVk w P t v) : PV w t v := h w (Nat.le_refl _) (fun _ _ _ => rfl)
theorem pvk_upd {fp P : Nat → Prop} {w w' : World} {t : Tr} {v : Value} (h : PVk w P t v) (hu : Upd fp w w') (hd : ∀ b, P b → ¬ fp b) : PVk w' P t v := fun w2 hs hb =>
  h w2 (Nat.le_trans hu.size hs) (fun b hl hp => (hb b (Nat.lt_of_lt_of_le hl hu.size) hp).trans (hu.block b hl (hd b hp)))
theorem pvk_ext {P : Nat → Prop} {w w' : World} {t : Tr} {v : Value} (h : PVk w P t v) (hE : Ext w w') : PVk w' P t v := pvk_upd h (upd_of_ext (fp := fun _ => False) hE) (fun _ _ h => h)
theorem pvk_mono {P P' : Nat → Prop} {w : World} {t : Tr} {v : Value} (h : PVk w P t v) (hp : ∀ b, b < w.heap.size → P b → P' b) : PVk w P' t v := fun w2 hs hb => h w2 hs (fun b hl hq => hb b hl (hp b hl hq))
/-- a row of paths of one's own, each on blocks from H on but the row's -/
def TurnRow (w : World) (H : Nat) (ts : List Tr) (v : Value) : Prop := ∃ xv : List PaV, xv.length = ts.length ∧ rowF elP H xv v w ∧ ∀ (m : Nat) (t : Tr) (y : PaV), ts[m]? = some t → xv[m]? = some y → PVk w (fun b => H ≤ b ∧ v.ownBlock ≠ some b) t (pav y)
theorem turnRow_nil (w : World) (H : Nat) : TurnRow w H [] (.slice none 0 0) := ⟨[], rfl, rowF_nil _ _, fun m t y ht => by simp at ht⟩
theorem turnRow_ext {w w' : World} {H : Nat} {ts : List Tr} {v : Value} (h : TurnRow w H ts v) (hE : Ext w w') : TurnRow w' H ts v := by
  obtain ⟨xv, h1, h2, h3⟩ := h
  exact ⟨xv, h1, rowF_ext _ _ _ hE h2, fun m t y ht hy => pvk_ext (h3 m t y ht hy) hE⟩
theorem turnRow_upd {fp : Nat → Prop} {w w' : World} {H : Nat} {ts : List Tr} {v : Value} (h : TurnRow w H ts v) (hu : Upd fp w w') (hf : ∀ b, fp b → b < H) : TurnRow w' H ts v := by
  obtain ⟨xv, h1, h2, h3⟩ := h
  exact ⟨xv, h1, rowF_upd h2 hu (fun b hb e => by have h8 := h2.2 b hb; have h9 := hf b e; omega), fun m t y ht hy => pvk_upd (h3 m t y ht hy) hu (fun b hb e => by have h9 := hf b e; omega)⟩
theorem turnRow_form {w : World} {H : Nat} {ts : List Tr} {v : Value} (h : TurnRow w H ts v) : ∃ A c, v = .slice A ts.length c := by
  obtain ⟨xv, h1, h2, -⟩ := h
  obtain ⟨A, c, rfl⟩ := rowE_form h2.1
  exact ⟨A, c, by rw [h1]⟩
theorem turnRow_own {w : World} {H : Nat} {ts : List Tr} {v : Value} (h : TurnRow w H ts v) : ∀ b, v.ownBlock = some b → H ≤ b ∧ b < w.heap.size := by
  obtain ⟨xv, h1, h2, -⟩ := h
  exact fun b hb => ⟨h2.2 b hb, (rowE_block h2.1 hb).1⟩
theorem turnRow_add {w : World} {H : Nat} {ts : List Tr} {v xs : Value} {t : Tr} {y : PaV} (h : TurnRow w H ts v) (hx : SrcOf elP w xs [y]) (hy : PVk w (fun b => H ≤ b ∧ v.ownBlock ≠ some b) t (pav y)) (hl : ts.length ≤ 1000000) (hH : H ≤ w.heap.size) (ty : TypeId) :
    ∃ v' w', (Builtin.append_ #[28, 28] ty #[v, xs]).run Try.prog w = .ok v' w' ∧ Upd (fun b => v.ownBlock = some b) w w' ∧ TurnRow w' H (ts ++ [t]) v' := by
  obtain ⟨xv, k1, k2, k3⟩ := h
  obtain ⟨v', w', r1, r2, r3, r4⟩ := append_at tpP ty H v xs xv [y] w k2 hx (by rw [k1]; simp; omega) hH
  have mv : ∀ {q : Tr} {z : PaV}, PVk w (fun b => H ≤ b ∧ v.ownBlock ≠ some b) q (pav z) → PVk w' (fun b => H ≤ b ∧ v'.ownBlock ≠ some b) q (pav z) := by
    intro q z hq
    have h1 : PVk w (fun b => H ≤ b ∧ v.ownBlock ≠ some b ∧ v'.ownBlock ≠ some b) q (pav z) := pvk_mono hq (fun b hb hp => ⟨hp.1, hp.2, fun e => by
      rcases r4 with h | h
      · rw [h] at e; exact hp.2 e
      · rw [h] at e; simp only [Option.some.injEq] at e; omega⟩)
    exact pvk_mono (pvk_upd h1 (upd_grown r3) (fun b hb => hb.2.1)) (fun b _ hb => ⟨hb.1, hb.2.2⟩)
  refine ⟨v', w', r1, upd_grown r3, xv ++ [y], by simp [k1], r2, fun m x' y' hx' hy' => ?_⟩
  by_cases hm : m < ts.length
  · rw [List.getElem?_append_left hm] at hx'
    rw [List.getElem?_append_left (by omega)] at hy'
    exact mv (k3 m x' y' hx' hy')
  · rw [List.getElem?_append_right (by omega)] at hx'
    rw [List.getElem?_append_right (by omega)] at hy'
    have hm0 : m - ts.length = 0 := by
      have := (List.getElem?_eq_some_iff.1 hx').1
      simp at this
      omega
    rw [hm0] at hx'
    rw [k1, hm0] at hy'
    simp only [List.getElem?_cons_zero, Option.some.injEq] at hx' hy'
    subst hx' hy'
    exact mv hy
theorem turnRow_node {w : World} {H n c : Nat} {ts : List Tr} {A : Option Addr} (h : TurnRow w H ts (.slice A n c)) (hn : n = ts.length) (k m : Int) : PVk w (fun b => H ≤ b) (.node k m ts) (pav (k, m, (A, n, c))) := by
  subst hn
  intro w' hs hb
  obtain ⟨xv, h1, h2, h3⟩ := h
  refine ⟨_, rfl, A, c, rfl, fun hne => ?_⟩
  obtain ⟨g, rfl, hg⟩ := rowE_some h2.1 (fun e => by rw [e] at h1; exact hne (List.length_eq_zero_iff.1 h1.symm))
  have hgH := h2.2 g rfl
  have hcell : ∀ o, w'.cell? ⟨g, o, none⟩ = w.cell? ⟨g, o, none⟩ := fun o => World.cell?_of_block (w := w) (a := ⟨g, o, none⟩) (hb g hg hgH)
  refine ⟨g, 0, rfl, PL_of ts g 0 (fun m t ht => ?_)⟩
  obtain ⟨y, hy⟩ : ∃ y, xv[m]? = some y := ⟨_, List.getElem?_eq_getElem (by have := (List.getElem?_eq_some_iff.1 ht).1; omega)⟩
  have c0 := rowE_cell h2.1 hy (j := 0) (u := .int .i64 y.1) rfl
  have c1 := rowE_cell h2.1 hy (j := 1) (u := .int .i64 y.2.1) rfl
  have c2 := rowE_cell h2.1 hy (j := 2) (u := slv y.2.2) rfl
  rw [Nat.zero_add]
  exact PT_of (h3 m t y ht hy w' hs (fun b hl hp => hb b hl hp.1)) ((hcell _).trans c0) ((hcell _).trans c1) ((hcell _).trans c2)
theorem turnRow_rev {w w' : World} {H : Nat} {ts : List Tr} {v : Value} (h : TurnRow w H ts v) (hr : ∀ L : List PaV, rowF elP H L v w → rowF elP H L.reverse v w') (hu : Upd (fun b => v.ownBlock = some b) w w') : TurnRow w' H ts.reverse v := by
  obtain ⟨xv, h1, h2, h3⟩ := h
  refine ⟨xv.reverse, by simp [h1], hr xv h2, fun m t y ht hy => ?_⟩
  have hm := (List.getElem?_eq_some_iff.1 ht).1
  rw [List.length_reverse] at hm
  rw [List.getElem?_reverse hm] at ht
  rw [List.getElem?_reverse (by omega), h1] at hy
  exact pvk_upd (h3 _ t y ht hy) hu (fun b hb => hb.2)

def TurnPost (t : Tr) (w : World) (e : Ending) (w' : World) : Prop := ∃ y : PaV, e = .returned (pav y) ∧ PVk w' (fun b => w.heap.size ≤ b) (turnT t) (pav y) ∧ Ext w w'
def TurnAt (N : Nat) : Prop := ∀ (t : Tr) (v : Value) (w : World), sizeT t ≤ N → PV w t v → Calls Try.prog 35 #[v] w (TurnPost t w)
end Go.Proofs.Ytiabmdboacpmcaa
