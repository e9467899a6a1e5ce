import Derived.Shelf.SlicesQ.Reverse
import Derived.Test.YtiabmdboacpmcaaX22
import Derived.Test.YtiabmdboacpmcaaX24
import Derived.Test.YtiabmdboacpmcaaX25
import Derived.Test.YtiabmdboacpmcaaX32
import Derived.Test.YtiabmdboacpmcaaX34
/- Rows of structs as the library's contracts see them; slices.Reverse at paths. -/
namespace Go.Proofs.Ytiabmdboacpmcaa
open Go Go.RowKit Go.Sort
set_option maxHeartbeats 1000000

theorem flatK_list {α : Type} [Inhabited α] (E : El α) (L : List α) : flatK E.enc E.size L.toArray = (flatE E L).toArray := by
  refine ext_get! (by simp [flatE_length]) fun t ht => ?_
  have ht' : t < L.toArray.size * E.size := by simpa using ht
  have hs := E.hs
  rw [get_flatK _ _ _ t ht']
  have hi : t / E.size < L.length := Nat.div_lt_of_lt_mul (by rw [Nat.mul_comm]; simpa using ht')
  have hj : t % E.size < E.size := Nat.mod_lt _ hs
  have hx : L[t / E.size]? = some L[t / E.size] := List.getElem?_eq_getElem hi
  have h1 := flatE_at E L (t / E.size) _ hx (t % E.size) hj
  rw [Nat.div_add_mod'] at h1
  have e1 : L.toArray[t / E.size]! = L[t / E.size] := by simp [hi]
  rw [e1]
  have hjl : t % E.size < (E.enc L[t / E.size]).length := by rw [E.hl]; exact hj
  rw [List.getElem?_eq_getElem hjl] at h1
  rw [getElem!_pos (E.enc L[t / E.size]) (t % E.size) hjl]
  have h2 := (List.getElem?_eq_some_iff.1 h1)
  obtain ⟨h3, h4⟩ := h2
  rw [getElem!_pos (flatE E L).toArray t (by simpa using h3)]
  simp [h4]
theorem holdsK_row {α : Type} [Inhabited α] {E : El α} {w : World} {g n c : Nat} {L : List α} (h : rowE E w (.slice (some ⟨g, 0, none⟩) n c) L) : HoldsK E.enc E.size w g 0 L.toArray := by
  rcases rowE_cases h with ⟨h1, _⟩ | ⟨g', cap, cur, h1, hg, _, _, h2, h3⟩
  · cases h1
  · simp only [Value.slice.injEq, Option.some.injEq, Addr.mk.injEq, and_true] at h1
    obtain ⟨rfl, -, -⟩ := h1
    unfold HoldsK
    rw [flatK_list]
    intro j hj
    have hj' : j < (flatE E L).length := by simpa using hj
    rw [Nat.zero_add]
    refine ⟨?_, block_frozen hg j⟩
    rw [block_cell hg j, getElem!_pos (flatE E L).toArray j hj]
    have h4 : (cur.toList.take (L.length * E.size))[j]? = some (flatE E L)[j] := by rw [h3]; exact List.getElem?_eq_getElem hj'
    rw [List.getElem?_take] at h4
    split at h4
    · simpa using h4
    · cases h4
theorem row_putK {α : Type} [Inhabited α] {E : El α} {w : World} {g n c : Nat} {L L' : List α} (h : rowE E w (.slice (some ⟨g, 0, none⟩) n c) L) (hl : L'.length = L.length) (m : Nat) (os : Array Obj) :
    rowE E (grow (putRowK E.enc E.size (Sort.ahead w m) g 0 L'.toArray) os) (.slice (some ⟨g, 0, none⟩) n c) L' ∧ Upd (fun b => b = g) w (grow (putRowK E.enc E.size (Sort.ahead w m) g 0 L'.toArray) os) := by
  rcases rowE_cases h with ⟨h1, _⟩ | ⟨g', cap, cur, h1, hg, h4, h5, h2, h3⟩
  · cases h1
  · simp only [Value.slice.injEq, Option.some.injEq, Addr.mk.injEq, and_true] at h1
    obtain ⟨rfl, rfl, rfl⟩ := h1
    unfold putRowK
    rw [flatK_list]
    have hlt : g < w.heap.size := block_lt hg
    have hb : (grow (putRow id (Sort.ahead w m) g 0 (flatE E L').toArray) os).heap[g]? = some (.cells (putCells id 0 (flatE E L').toArray cur) E.ty (0, 0)) := by
      rw [heap_grow_old _ _ (by simpa [putRow, mapBlock, Sort.ahead] using hlt)]
      simp [putRow, mapBlock, Sort.ahead, Array.getElem?_modify, hg, onCells]
    have hfl : (flatE E L').length = L.length * E.size := by rw [flatE_length, hl]
    refine ⟨⟨by rw [flatE_length], .inr ⟨g, c, _, by rw [hl], Nat.zero_le _, hb, by omega, h5, by simp [putCells, h2], ?_⟩⟩, rfl, rfl, rfl, by simp [grow, putRow, mapBlock, Sort.ahead], fun k hk hn => ?_⟩
    · have hle : L.length * E.size ≤ cur.size := by rw [h2]; exact Nat.mul_le_mul_right _ h4
      rw [hl]
      apply List.ext_getElem?
      intro j
      by_cases hj : j < L.length * E.size
      · rw [List.getElem?_take_of_lt hj, Array.getElem?_toList]
        simp [putCells, show j < (flatE E L').length by omega, show j < cur.size by omega]
      · rw [List.getElem?_take_eq_none (by omega), List.getElem?_eq_none (by omega)]
    · have h6 : k ≠ g := hn
      rw [heap_grow_old _ _ (by simpa [putRow, mapBlock, Sort.ahead] using hk)]
      simp only [putRow, mapBlock, Sort.ahead, Array.getElem?_modify]
      rw [if_neg (fun e => h6 e.symm)]
theorem grow_nil (w : World) : grow w #[] = w := by simp [grow]

def Try.laysR68_ren : Go.Shelf.Ren := ⟨fun | 35 => 68 | n => n, fun | 22 => 28 | 23 => 30 | 0 => 0 | 3 => 3 | 4 => 4 | n => n, fun | n => n⟩
theorem Try.laysR68 : Go.Proofs.SlLaysE0.n35 Try.prog Try.laysR68_ren := {
  mixed := by kernel_rfl
  f35 := ⟨Try.f68.name, by decide, Try.func68.trans (congrArg some (by kernel_rfl))⟩
  t0 := Try.underlying0
  a0 := Try.isAgg0
  z0 := Try.sizeOf0
  v0 := Try.zeroValue0
  t3 := Try.underlying3
  a3 := Try.isAgg3
  z3 := Try.sizeOf3
  v3 := Try.zeroValue3
  t4 := Try.underlying4
  a4 := Try.isAgg4
  z4 := Try.sizeOf4
  v4 := Try.zeroValue4
  t22 := Try.underlying28
  a22 := Try.isAgg28
  z22 := Try.sizeOf28
  v22 := Try.zeroValue28 }
theorem reverse_any (H : Nat) (v : Value) (L : List PaV) (w : World) (h : rowF elP H L v w) (hm : L.length ≤ 1000000) : Calls Try.prog 68 #[v] w fun e w' => e = .returned (.tuple #[]) ∧ rowF elP H L.reverse v w' ∧ Upd (fun b => v.ownBlock = some b) w w' := by
  rcases rowE_cases h.1 with ⟨rfl, rfl⟩ | ⟨g, cap, cur, rfl, -, -, -, -, -⟩
  · refine (AnyQ.slices_Reverse_empty Try.laysR68 none 0 w).mono ?_
    rintro e w' ⟨rfl, rfl⟩
    exact ⟨rfl, rowF_nil _ _, upd_refl⟩
  · have hr := AnyQ.slices_Reverse Try.laysR68 3 Try.isAgg30 Try.sizeOf30 elP.enc elP.hl elP.h1 g 0 cap L.toArray w (holdsK_row h.1) (by simp; omega)
    simp only [List.size_toArray] at hr
    refine hr.mono ?_
    rintro e w' ⟨rfl, n, rfl⟩
    have hp := row_putK (L' := L.reverse) h.1 (by simp) n #[]
    rw [grow_nil] at hp
    rw [List.reverse_toArray]
    exact ⟨rfl, ⟨hp.1, h.2⟩, upd_mono hp.2 (fun b _ e => by rw [e]; rfl)⟩
end Go.Proofs.Ytiabmdboacpmcaa
/- Turned: the walk. -/
namespace Go.Proofs.Ytiabmdboacpmcaa
open Go Go.RowKit Go.Sort
set_option maxHeartbeats 2000000

def pav (y : PaV) : Value := .agg #[.int .i64 y.1, .int .i64 y.2.1, slv y.2.2]
theorem PT_of {w : World} {t : Tr} {y : PaV} {g o : Nat} (h : PV w t (pav y)) (h1 : w.cell? ⟨g, o, none⟩ = some (.int .i64 y.1)) (h2 : w.cell? ⟨g, o + 1, none⟩ = some (.int .i64 y.2.1)) (h3 : w.cell? ⟨g, o + 2, none⟩ = some (slv y.2.2)) : PT w t g o := by
  cases t with
  | node k n ps =>
    obtain ⟨s, hs, A, c, rfl, hp⟩ := h
    simp only [pav, Value.agg.injEq, Array.mk.injEq, List.cons.injEq, Value.int.injEq, true_and, and_true] at hs
    obtain ⟨e1, e2, e3⟩ := hs
    rw [PT]
    rw [e1] at h1
    rw [e2] at h2
    rw [e3] at h3
    exact ⟨h1, h2, A, c, h3, hp⟩
theorem PL_of {w : World} : ∀ (ps : List Tr) (g o : Nat), (∀ (m : Nat) (t : Tr), ps[m]? = some t → PT w t g (o + m * 3)) → PL w ps g o
  | [], _, _, _ => by rw [PL]; trivial
  | p :: r, g, o, h => by
    rw [PL]
    refine ⟨by simpa using h 0 p rfl, PL_of r g (o + 3) (fun m t ht => ?_)⟩
    have := h (m + 1) t (by simpa using ht)
    rwa [show o + (m + 1) * 3 = o + 3 + m * 3 by omega] at this
/-- a path's value that hangs on some blocks alone -/
def PVk (w : World) (P : Nat → Prop) (t : Tr) (v : Value) : Prop := ∀ w' : World, w.heap.size ≤ w'.heap.size → (∀ b, b < w.heap.size → P b → w'.heap[b]? = w.heap[b]?) → PV w' t v
theorem pvk_pv {w : World} {P : Nat → Prop} {t : Tr} {v : Value} (h : PVk w P t v) : PV w t v := h w (Nat.le_refl _) (fun _ _ _ => rfl)
theorem pvk_upd {fp P : Nat → Prop} {w w' : World} {t : Tr} {v : Value} (h : PVk w P t v) (hu : Upd fp w w') (hd : ∀ b, P b → ¬ fp b) : PVk w' P t v := fun w2 hs hb =>
  h w2 (Nat.le_trans hu.size hs) (fun b hl hp => (hb b (Nat.lt_of_lt_of_le hl hu.size) hp).trans (hu.block b hl (hd b hp)))
theorem pvk_ext {P : Nat → Prop} {w w' : World} {t : Tr} {v : Value} (h : PVk w P t v) (hE : Ext w w') : PVk w' P t v := pvk_upd h (upd_of_ext (fp := fun _ => False) hE) (fun _ _ h => h)
theorem pvk_mono {P P' : Nat → Prop} {w : World} {t : Tr} {v : Value} (h : PVk w P t v) (hp : ∀ b, b < w.heap.size → P b → P' b) : PVk w P' t v := fun w2 hs hb => h w2 hs (fun b hl hq => hb b hl (hp b hl hq))
/-- a row of paths of one's own, each on blocks from H on but the row's -/
def TurnRow (w : World) (H : Nat) (ts : List Tr) (v : Value) : Prop := ∃ xv : List PaV, xv.length = ts.length ∧ rowF elP H xv v w ∧ ∀ (m : Nat) (t : Tr) (y : PaV), ts[m]? = some t → xv[m]? = some y → PVk w (fun b => H ≤ b ∧ v.ownBlock ≠ some b) t (pav y)
theorem turnRow_nil (w : World) (H : Nat) : TurnRow w H [] (.slice none 0 0) := ⟨[], rfl, rowF_nil _ _, fun m t y ht => by simp at ht⟩
theorem turnRow_ext {w w' : World} {H : Nat} {ts : List Tr} {v : Value} (h : TurnRow w H ts v) (hE : Ext w w') : TurnRow w' H ts v := by
  obtain ⟨xv, h1, h2, h3⟩ := h
  exact ⟨xv, h1, rowF_ext _ _ _ hE h2, fun m t y ht hy => pvk_ext (h3 m t y ht hy) hE⟩
theorem turnRow_upd {fp : Nat → Prop} {w w' : World} {H : Nat} {ts : List Tr} {v : Value} (h : TurnRow w H ts v) (hu : Upd fp w w') (hf : ∀ b, fp b → b < H) : TurnRow w' H ts v := by
  obtain ⟨xv, h1, h2, h3⟩ := h
  exact ⟨xv, h1, rowF_upd h2 hu (fun b hb e => by have h8 := h2.2 b hb; have h9 := hf b e; omega), fun m t y ht hy => pvk_upd (h3 m t y ht hy) hu (fun b hb e => by have h9 := hf b e; omega)⟩
theorem turnRow_form {w : World} {H : Nat} {ts : List Tr} {v : Value} (h : TurnRow w H ts v) : ∃ A c, v = .slice A ts.length c := by
  obtain ⟨xv, h1, h2, -⟩ := h
  obtain ⟨A, c, rfl⟩ := rowE_form h2.1
  exact ⟨A, c, by rw [h1]⟩
theorem turnRow_own {w : World} {H : Nat} {ts : List Tr} {v : Value} (h : TurnRow w H ts v) : ∀ b, v.ownBlock = some b → H ≤ b ∧ b < w.heap.size := by
  obtain ⟨xv, h1, h2, -⟩ := h
  exact fun b hb => ⟨h2.2 b hb, (rowE_block h2.1 hb).1⟩
theorem turnRow_add {w : World} {H : Nat} {ts : List Tr} {v xs : Value} {t : Tr} {y : PaV} (h : TurnRow w H ts v) (hx : SrcOf elP w xs [y]) (hy : PVk w (fun b => H ≤ b ∧ v.ownBlock ≠ some b) t (pav y)) (hl : ts.length ≤ 1000000) (hH : H ≤ w.heap.size) (ty : TypeId) :
    ∃ v' w', (Builtin.append_ #[28, 28] ty #[v, xs]).run Try.prog w = .ok v' w' ∧ Upd (fun b => v.ownBlock = some b) w w' ∧ TurnRow w' H (ts ++ [t]) v' := by
  obtain ⟨xv, k1, k2, k3⟩ := h
  obtain ⟨v', w', r1, r2, r3, r4⟩ := append_at tpP ty H v xs xv [y] w k2 hx (by rw [k1]; simp; omega) hH
  have mv : ∀ {q : Tr} {z : PaV}, PVk w (fun b => H ≤ b ∧ v.ownBlock ≠ some b) q (pav z) → PVk w' (fun b => H ≤ b ∧ v'.ownBlock ≠ some b) q (pav z) := by
    intro q z hq
    have h1 : PVk w (fun b => H ≤ b ∧ v.ownBlock ≠ some b ∧ v'.ownBlock ≠ some b) q (pav z) := pvk_mono hq (fun b hb hp => ⟨hp.1, hp.2, fun e => by
      rcases r4 with h | h
      · rw [h] at e; exact hp.2 e
      · rw [h] at e; simp only [Option.some.injEq] at e; omega⟩)
    exact pvk_mono (pvk_upd h1 (upd_grown r3) (fun b hb => hb.2.1)) (fun b _ hb => ⟨hb.1, hb.2.2⟩)
  refine ⟨v', w', r1, upd_grown r3, xv ++ [y], by simp [k1], r2, fun m x' y' hx' hy' => ?_⟩
  by_cases hm : m < ts.length
  · rw [List.getElem?_append_left hm] at hx'
    rw [List.getElem?_append_left (by omega)] at hy'
    exact mv (k3 m x' y' hx' hy')
  · rw [List.getElem?_append_right (by omega)] at hx'
    rw [List.getElem?_append_right (by omega)] at hy'
    have hm0 : m - ts.length = 0 := by
      have := (List.getElem?_eq_some_iff.1 hx').1
      simp at this
      omega
    rw [hm0] at hx'
    rw [k1, hm0] at hy'
    simp only [List.getElem?_cons_zero, Option.some.injEq] at hx' hy'
    subst hx' hy'
    exact mv hy
theorem turnRow_node {w : World} {H n c : Nat} {ts : List Tr} {A : Option Addr} (h : TurnRow w H ts (.slice A n c)) (hn : n = ts.length) (k m : Int) : PVk w (fun b => H ≤ b) (.node k m ts) (pav (k, m, (A, n, c))) := by
  subst hn
  intro w' hs hb
  obtain ⟨xv, h1, h2, h3⟩ := h
  refine ⟨_, rfl, A, c, rfl, fun hne => ?_⟩
  obtain ⟨g, rfl, hg⟩ := rowE_some h2.1 (fun e => by rw [e] at h1; exact hne (List.length_eq_zero_iff.1 h1.symm))
  have hgH := h2.2 g rfl
  have hcell : ∀ o, w'.cell? ⟨g, o, none⟩ = w.cell? ⟨g, o, none⟩ := fun o => World.cell?_of_block (w := w) (a := ⟨g, o, none⟩) (hb g hg hgH)
  refine ⟨g, 0, rfl, PL_of ts g 0 (fun m t ht => ?_)⟩
  obtain ⟨y, hy⟩ : ∃ y, xv[m]? = some y := ⟨_, List.getElem?_eq_getElem (by have := (List.getElem?_eq_some_iff.1 ht).1; omega)⟩
  have c0 := rowE_cell h2.1 hy (j := 0) (u := .int .i64 y.1) rfl
  have c1 := rowE_cell h2.1 hy (j := 1) (u := .int .i64 y.2.1) rfl
  have c2 := rowE_cell h2.1 hy (j := 2) (u := slv y.2.2) rfl
  rw [Nat.zero_add]
  exact PT_of (h3 m t y ht hy w' hs (fun b hl hp => hb b hl hp.1)) ((hcell _).trans c0) ((hcell _).trans c1) ((hcell _).trans c2)
theorem turnRow_rev {w w' : World} {H : Nat} {ts : List Tr} {v : Value} (h : TurnRow w H ts v) (hr : ∀ L : List PaV, rowF elP H L v w → rowF elP H L.reverse v w') (hu : Upd (fun b => v.ownBlock = some b) w w') : TurnRow w' H ts.reverse v := by
  obtain ⟨xv, h1, h2, h3⟩ := h
  refine ⟨xv.reverse, by simp [h1], hr xv h2, fun m t y ht hy => ?_⟩
  have hm := (List.getElem?_eq_some_iff.1 ht).1
  rw [List.length_reverse] at hm
  rw [List.getElem?_reverse hm] at ht
  rw [List.getElem?_reverse (by omega), h1] at hy
  exact pvk_upd (h3 _ t y ht hy) hu (fun b hb => hb.2)

def TurnPost (t : Tr) (w : World) (e : Ending) (w' : World) : Prop := ∃ y : PaV, e = .returned (pav y) ∧ PVk w' (fun b => w.heap.size ≤ b) (turnT t) (pav y) ∧ Ext w w'
def TurnAt (N : Nat) : Prop := ∀ (t : Tr) (v : Value) (w : World), sizeT t ≤ N → PV w t v → Calls Try.prog 35 #[v] w (TurnPost t w)
end Go.Proofs.Ytiabmdboacpmcaa
/- Turned: the walk. -/
namespace Go.Proofs.Ytiabmdboacpmcaa
open Go Go.RowKit Go.Sort
set_option maxHeartbeats 2000000

theorem PT_pv {w : World} {t : Tr} {g o : Nat} (h : PT w t g o) : ∃ y : PaV, PV w t (pav y) ∧ w.cell? ⟨g, o, none⟩ = some (.int .i64 y.1) ∧ w.cell? ⟨g, o + 1, none⟩ = some (.int .i64 y.2.1) ∧ w.cell? ⟨g, o + 2, none⟩ = some (slv y.2.2) := by
  cases t with
  | node k n ps =>
    rw [PT] at h
    obtain ⟨h1, h2, A, c, h3, h4⟩ := h
    exact ⟨(k, n, (A, ps.length, c)), ⟨_, rfl, A, c, rfl, h4⟩, h1, h2, h3⟩
theorem set3 {w : World} {b : Nat} {u0 u1 u2 : Value} (e0 : w.cell? ⟨b, 0, none⟩ = some u0) (e1 : w.cell? ⟨b, 1, none⟩ = some u1) (e2 : w.cell? ⟨b, 2, none⟩ = some u2) (x y z : Value) :
    (((w.setCell ⟨b, 0, none⟩ x).setCell ⟨b, 1, none⟩ y).setCell ⟨b, 2, none⟩ z).cell? ⟨b, 0, none⟩ = some x ∧ (((w.setCell ⟨b, 0, none⟩ x).setCell ⟨b, 1, none⟩ y).setCell ⟨b, 2, none⟩ z).cell? ⟨b, 1, none⟩ = some y ∧ (((w.setCell ⟨b, 0, none⟩ x).setCell ⟨b, 1, none⟩ y).setCell ⟨b, 2, none⟩ z).cell? ⟨b, 2, none⟩ = some z ∧ Upd (fun c => c = b) w (((w.setCell ⟨b, 0, none⟩ x).setCell ⟨b, 1, none⟩ y).setCell ⟨b, 2, none⟩ z) := by
  have n : ∀ i j : Nat, i ≠ j → (⟨b, i, none⟩ : Addr) ≠ ⟨b, j, none⟩ := fun i j h e => by simp only [Addr.mk.injEq] at e; exact h e.2.1
  have h10 : (w.setCell ⟨b, 0, none⟩ x).cell? ⟨b, 1, none⟩ = some u1 := (World.cell?_setCell_other _ _ _ _ (n 0 1 (by decide))).trans e1
  have h20 : ((w.setCell ⟨b, 0, none⟩ x).setCell ⟨b, 1, none⟩ y).cell? ⟨b, 2, none⟩ = some u2 := (World.cell?_setCell_other _ _ _ _ (n 1 2 (by decide))).trans ((World.cell?_setCell_other _ _ _ _ (n 0 2 (by decide))).trans e2)
  refine ⟨?_, ?_, World.cell?_setCell_same _ _ _ h20, ?_⟩
  · rw [World.cell?_setCell_other _ _ _ _ (n 2 0 (by decide)), World.cell?_setCell_other _ _ _ _ (n 1 0 (by decide))]
    exact World.cell?_setCell_same _ _ _ e0
  · rw [World.cell?_setCell_other _ _ _ _ (n 2 1 (by decide))]
    exact World.cell?_setCell_same _ _ _ h10
  · exact upd_trans (upd_trans (upd_setCell (a := ⟨b, 0, none⟩) _) (upd_setCell (a := ⟨b, 1, none⟩) _) (fun _ _ h => h)) (upd_setCell (a := ⟨b, 2, none⟩) _) (fun _ _ h => h)
theorem turn_fin {w wy W9 : World} {k n : Int} {ts : List Tr} {P : Option Addr} {len d : Nat} (htr : TurnRow wy (w.heap.size + 3) ts (.slice P len d)) (hl : len = ts.length) (hE : Ext w wy) (hz : w.heap.size + 3 ≤ wy.heap.size) (hu : Upd (fun b => b = w.heap.size + 1) wy W9) :
    PVk W9 (fun b => w.heap.size ≤ b) (.node k n ts) (pav (k, n, (P, len, d))) ∧ Ext w W9 :=
  ⟨pvk_mono (pvk_upd (turnRow_node htr hl k n) hu (fun b hb e => by have e' : b = w.heap.size + 1 := e; omega)) (fun b _ hb => by omega), ext_updL hE hu (fun b e => by have e' : b = w.heap.size + 1 := e; omega)⟩
theorem block_frozenU {fp : Nat → Prop} {w w' : World} (h : Upd fp w w') {b o : Nat} (hb : b < w.heap.size) (hn : ¬ fp b) (hf : w.frozen? ⟨b, o, none⟩ = false) : w'.frozen? ⟨b, o, none⟩ = false := by
  unfold World.frozen? at hf ⊢
  rw [h.block b hb hn]
  exact hf
theorem reverse_turn {w : World} {H : Nat} {ts : List Tr} {v : Value} (h : TurnRow w H ts v) (hl : ts.length ≤ 1000000) : Calls Try.prog 68 #[v] w fun e w' => e = .returned (.tuple #[]) ∧ TurnRow w' H ts.reverse v ∧ Upd (fun b => v.ownBlock = some b) w w' ∧ w.heap.size ≤ w'.heap.size := by
  obtain ⟨xv, h1, h2, h3⟩ := h
  refine (reverse_any H v xv w h2 (by omega)).mono ?_
  rintro e w' ⟨rfl, hr, hu⟩
  refine ⟨rfl, ⟨xv.reverse, by simp [h1], hr, fun m t y ht hy => ?_⟩, hu, hu.size⟩
  have hm := (List.getElem?_eq_some_iff.1 ht).1
  rw [List.length_reverse] at hm
  rw [List.getElem?_reverse hm] at ht
  rw [List.getElem?_reverse (by omega), h1] at hy
  exact pvk_upd (h3 _ t y ht hy) hu (fun b hb => hb.2)
def TR3 (W : World) (t : Tr) (v : Value) (w' : World) : Prop := ∃ y : PaV, v = pav y ∧ PVk w' (fun b => W.heap.size ≤ b) t (pav y)
def TR4 (W : World) (t : Tr) (v : Value) (w' : World) : Prop := ∃ y : PaV, oneF elP W.heap.size y v w' ∧ PVk w' (fun b => W.heap.size ≤ b) t (pav y)
theorem turnL_take (ps : List Tr) (j : Nat) (q : Tr) (h : ps[j]? = some q) : turnL (ps.take (j + 1)) = turnL (ps.take j) ++ [turnT q] := by
  rw [turnL_map, turnL_map, List.take_add_one, h]
  simp
set_option maxRecDepth 100000 in
theorem turn_step {N : Nat} (hd : TurnAt N) (hN1 : N ≤ 100000) : TurnAt (N + 1) := by
  intro t v w hN hv
  cases t with
  | node k n ps =>
    rw [sizeT] at hN
    have hlen := sizeL_len ps
    obtain ⟨s, rfl, hs⟩ := hv
    obtain ⟨A, c, rfl⟩ := PS_form hs
    have HD := Lib.hid hd
    have HS := Lib.hid hs
    clear hd hs
    go_enter Try.func35, Try.ntmps35
    go_wp2_with fail
    have hE0 : Ext w (((w.alloc (.cells #[.int .i64 k, .int .i64 n, .slice A ps.length c] 30)).alloc (.cells #[.int .i64 0, .int .i64 0, .slice none 0 0] 30)).alloc (.cells #[.int .i64 k, .int .i64 n, .slice none 0 0] 30)) := ext_alloc (ext_alloc (ext_alloc (ext_refl _) _) _) _
    obtain ⟨W0, hW0⟩ : ∃ W0, W0 = (((w.alloc (.cells #[.int .i64 k, .int .i64 n, .slice A ps.length c] 30)).alloc (.cells #[.int .i64 0, .int .i64 0, .slice none 0 0] 30)).alloc (.cells #[.int .i64 k, .int .i64 n, .slice none 0 0] 30)) := ⟨_, rfl⟩
    obtain ⟨x1, x2, x3⟩ := heap_three w (.cells #[.int .i64 k, .int .i64 n, .slice A ps.length c] 30) (.cells #[.int .i64 0, .int .i64 0, .slice none 0 0] 30) (.cells #[.int .i64 k, .int .i64 n, .slice none 0 0] 30)
    have hz0 : W0.heap.size = w.heap.size + 3 := by rw [hW0]; simp
    rw [← hW0] at hE0 x1 x2 x3 ⊢
    have HE0 := Lib.hid hE0
    have HX1 := Lib.hid x1
    have HX2 := Lib.hid x2
    have HX3 := Lib.hid x3
    have HZ0 := Lib.hid hz0
    clear hW0 hE0 x1 x2 x3 hz0
    go_loopw [14] (fun x wr => ∃ (j : Nat) (P : Option Addr) (d : Nat), j ≤ ps.length ∧ x = .int .i64 j ∧ TurnRow wr (w.heap.size + 3) (turnL (ps.take j)) (.slice P j d) ∧ wr.heap[w.heap.size]? = some (.cells #[.int .i64 k, .int .i64 n, .slice A ps.length c] 30 (0, 0)) ∧ (∃ cs, wr.heap[w.heap.size + 1]? = some (.cells cs 30 (0, 0)) ∧ cs.size = 3) ∧ wr.heap[w.heap.size + 1 + 1]? = some (.cells #[.int .i64 k, .int .i64 n, .slice P j d] 30 (0, 0)) ∧ Ext w wr ∧ w.heap.size + 3 ≤ wr.heap.size) (fun x _ => ps.length - (intOf x).toNat)
    case atStart => exact ⟨0, none, 0, Nat.zero_le _, rfl, turnRow_nil _ _, HX1.out, ⟨_, HX2.out, rfl⟩, HX3.out, HE0.out, by rw [HZ0.out]; exact Nat.le_refl _⟩
    case round =>
      rename World => wr
      obtain ⟨j, P, d, hj, rfl, htr, hb1, hb2, hb3, hE, hsz⟩ := hrel
      have HTR := Lib.hid htr
      have HB1 := Lib.hid hb1
      have HB2 := Lib.hid hb2
      have HB3 := Lib.hid hb3
      have HE := Lib.hid hE
      have p0 : wr.cell? ⟨w.heap.size, 0, none⟩ = some (.int .i64 k) := block_cell hb1 0
      have r0 : wr.cell? ⟨w.heap.size + 1 + 1, 0, none⟩ = some (.int .i64 k) := block_cell hb3 0
      have r1 : wr.cell? ⟨w.heap.size + 1 + 1, 1, none⟩ = some (.int .i64 n) := block_cell hb3 1
      have r2 : wr.cell? ⟨w.heap.size + 1 + 1, 2, none⟩ = some (.slice P j d) := block_cell hb3 2
      have f0 := block_frozen hb3 0
      have l3 := block_lt hb3
      have l1 := block_lt hb1
      clear htr hb1 hb2 hb3 hE
      by_cases hlt : j < ps.length
      · have hji : (j : Int) < (ps.length : Int) := by omega
        have hj0 : (0 : Int) ≤ (j : Int) := by omega
        obtain ⟨q, hq⟩ : ∃ q, ps[j]? = some q := ⟨_, List.getElem?_eq_getElem hlt⟩
        have hqs := sizeL_mem (List.mem_of_getElem? hq)
        obtain ⟨g, o, hA, lg, hpt⟩ := PS_at (PS_ext HS.out HE.out) hq
        subst hA
        obtain ⟨⟨qk, qn, qs⟩, hpv, c0, c1, c2⟩ := PT_pv hpt
        obtain ⟨qA, qm, qc⟩ := qs
        simp only [slv] at c0 c1 c2
        have HPV := Lib.hid hpv
        have HQ := Lib.hid hq
        clear hpt hpv hq
        go_wp2_with fail
        have hEa := ext_alloc (ext_refl wr) (.cells #[.int .i64 qk, .int .i64 qn, .slice qA qm qc] 30)
        have hBa := heap_alloc_new wr (.cells #[.int .i64 qk, .int .i64 qn, .slice qA qm qc] 30)
        obtain ⟨wa, hwa⟩ : ∃ wa, wa = wr.alloc (.cells #[.int .i64 qk, .int .i64 qn, .slice qA qm qc] 30) := ⟨_, rfl⟩
        have hsza : wa.heap.size = wr.heap.size + 1 := by rw [hwa]; simp
        rw [← hwa] at hEa hBa ⊢
        obtain ⟨pa, hpa⟩ : ∃ pa, pa = wr.heap.size := ⟨_, rfl⟩
        rw [← hpa] at hBa ⊢
        have hb3a := (ext_block hEa (block_lt HB3.out)).trans HB3.out
        have r2a : wa.cell? ⟨w.heap.size + 1 + 1, 2, none⟩ = some (.slice P j d) := block_cell hb3a 2
        have a0 : wa.cell? ⟨pa, 0, none⟩ = some (.int .i64 qk) := block_cell hBa 0
        have a1 : wa.cell? ⟨pa, 1, none⟩ = some (.int .i64 qn) := block_cell hBa 1
        have a2 : wa.cell? ⟨pa, 2, none⟩ = some (.slice qA qm qc) := block_cell hBa 2
        have HTRa := Lib.hid (turnRow_ext HTR.out hEa)
        have hown := turnRow_own HTR.out
        have nf1 : ¬ (Value.slice P j d).ownBlock = some (w.heap.size + 1 + 1) := fun e => by have := (hown _ e).1; omega
        have nfa : ¬ (Value.slice P j d).ownBlock = some pa := fun e => by have := (hown _ e).2; omega
        have s2 : ∀ pw : UW (fun b => (Value.slice P j d).ownBlock = some b) wa, pw.val.cell? ⟨w.heap.size + 1 + 1, 2, none⟩ = some (.slice P j d) := uw_cell r2a nf1
        have s3 : ∀ pw : UW (fun b => (Value.slice P j d).ownBlock = some b) wa, pw.val.cell? ⟨pa, 0, none⟩ = some (.int .i64 qk) := uw_cell a0 nfa
        have s4 : ∀ pw : UW (fun b => (Value.slice P j d).ownBlock = some b) wa, pw.val.cell? ⟨pa, 1, none⟩ = some (.int .i64 qn) := uw_cell a1 nfa
        have s5 : ∀ pw : UW (fun b => (Value.slice P j d).ownBlock = some b) wa, pw.val.cell? ⟨pa, 2, none⟩ = some (.slice qA qm qc) := uw_cell a2 nfa
        have HOWN := Lib.hid hown
        have HB1a := Lib.hid ((ext_block hEa (block_lt HB1.out)).trans HB1.out)
        have HB3a := Lib.hid hb3a
        have HEa := Lib.hid hEa
        have HSZa := Lib.hid hsza
        have HNF1 := Lib.hid nf1
        clear hwa hBa hpa hown nf1 nfa r2a a0 a1 a2 hb3a hEa hsza p0 r0 r1 r2 f0 c0 c1 c2
        refine wp_region_upd (fp := fun b => (Value.slice P j d).ownBlock = some b) [] [0, 1, 2] [(3, TR3 wa (turnT q)), (4, TR4 wa (turnT q))] 5 (fun v w' => TurnRow w' (w.heap.size + 3) (turnL (ps.take (j + 1))) v) [6, 7] [3, 4, 5] rfl (by kernel_rfl) (by kernel_rfl) (by kernel_rfl) (fun _ _ d _ _ h => by cases d <;> exact h) ?_
        refine wpPre_nil ?_
        repeat (refine wpU_step rfl (fun K hK => ?_); (try simp only [Oper.quietAt, Oper.quietUpon]); go_simp; (refine hK _ ?_; clear hK K))
        refine wpU_nil ?_
        refine wpGen_step rfl rfl (fun v a b hE ⟨y, h1, h2⟩ => ⟨y, h1, pvk_ext h2 hE⟩) (fun w6 hE6 hS6 => ?_) (fun v3 => ?_)
        · simp only [runsAt]
          go_simp
          refine (HD.out q _ w6 (by omega) (PV_ext HPV.out (ext_trans HEa.out hE6))).mono ?_
          rintro e w7 ⟨y, rfl, h1, h2⟩
          exact ⟨_, rfl, h2, y, rfl, pvk_mono h1 (fun b _ hb => Nat.le_trans (ext_size hE6) hb)⟩
        refine wpGen_step rfl rfl (fun v a b hE ⟨y, h1, h2⟩ => ⟨y, oneF_ext _ _ _ hE h1, pvk_ext h2 hE⟩) (fun w6 hE6 hS6 => ?_) (fun v4 => ?_)
        · obtain ⟨y, rfl, h1⟩ := hS6 _ (List.mem_cons_self ..) (by kernel_rfl)
          simp only [runsAt, pav, slv]
          go_simp
          exact ⟨ext_alloc (ext_refl _) _, y, ⟨_, rfl, ext_size hE6, heap_alloc_new w6 _⟩, pvk_ext h1 (ext_alloc (ext_refl _) _)⟩
        refine wpGen_nil ?_
        refine ⟨⟨_, rfl, rfl, fun v a b hE hR => turnRow_ext hR hE⟩, fun w6 hE6 hS6 o ho => ?_, fun o ho v w6 hU6 hR6 => ?_⟩
        · cases ho
          obtain ⟨y, h1, h2⟩ := hS6 _ (List.mem_cons_self ..)
          refine runs_append (sv := .slice P j d) (xv := v4) (.tmp 19) (.tmp 22) rfl rfl rfl ?_
          obtain ⟨v', w', hrun, hu, hr⟩ := turnRow_add (turnRow_ext HTRa.out hE6) (srcOf_one h1) (t := turnT q) (y := y) (pvk_mono h2 (fun b _ hb => ⟨by have := HSZa.out; omega, fun e => by have := (HOWN.out b e).2; have := HSZa.out; omega⟩)) (by rw [turnL_length]; have := List.length_take_le j ps; omega) (by have := ext_size hE6; have := HSZa.out; omega) 28
          exact ⟨v', w', hrun, hu, by rw [turnL_take ps j q HQ.out]; exact hr⟩
        · cases ho
          have hr6 : TurnRow w6 (w.heap.size + 3) (turnL (ps.take (j + 1))) v := hR6
          obtain ⟨A6, c6, hv6⟩ := turnRow_form hr6
          have hl6 : (turnL (ps.take (j + 1))).length = j + 1 := by rw [turnL_length, List.length_take]; omega
          rw [hl6] at hv6
          subst hv6
          have hpb6 := (hU6.block (w.heap.size + 1 + 1) (by have := HSZa.out; omega) HNF1.out).trans HB3a.out
          have y3 : w6.cell? ⟨w.heap.size + 1 + 1, 2, none⟩ = some (.slice P j d) := s2 ⟨w6, hU6⟩
          have f3 := block_frozen hpb6 2
          have lp6 := block_lt hpb6
          have hUF : Upd (fun b => b = w.heap.size + 1 + 1) w6 (w6.setCell ⟨w.heap.size + 1 + 1, 2, none⟩ (.slice A6 (j + 1) c6)) := upd_setCell (a := ⟨w.heap.size + 1 + 1, 2, none⟩) _
          have HPB6 := Lib.hid (show (w6.setCell ⟨w.heap.size + 1 + 1, 2, none⟩ (.slice A6 (j + 1) c6)).heap[w.heap.size + 1 + 1]? = some (.cells #[.int .i64 k, .int .i64 n, .slice A6 (j + 1) c6] 30 (0, 0)) from heap_setCell_at hpb6)
          have HR6 := Lib.hid (show TurnRow (w6.setCell ⟨w.heap.size + 1 + 1, 2, none⟩ (.slice A6 (j + 1) c6)) (w.heap.size + 3) (turnL (ps.take (j + 1))) (.slice A6 (j + 1) c6) from turnRow_upd hr6 hUF (fun b e => by have e' : b = w.heap.size + 1 + 1 := e; omega))
          have hEx : Ext w w6 := ext_updL (ext_trans HE.out HEa.out) hU6 (fun b hb => by have := (HOWN.out b hb).1; omega)
          have HX6 := Lib.hid (show Ext w (w6.setCell ⟨w.heap.size + 1 + 1, 2, none⟩ (.slice A6 (j + 1) c6)) from ext_set hEx (by show w.heap.size ≤ w.heap.size + 1 + 1; omega) _)
          have hb1x := (hU6.block w.heap.size (by have := HSZa.out; omega) (fun e => by have := (HOWN.out _ e).1; omega)).trans HB1a.out
          have HB1x := Lib.hid ((hUF.block _ (block_lt hb1x) (by show ¬ w.heap.size = w.heap.size + 1 + 1; omega)).trans hb1x)
          have HB2x : Hid (∃ cs, (w6.setCell ⟨w.heap.size + 1 + 1, 2, none⟩ (.slice A6 (j + 1) c6)).heap[w.heap.size + 1]? = some (.cells cs 30 (0, 0)) ∧ cs.size = 3) := Lib.hid (by
            obtain ⟨cs, h1, h2⟩ := HB2.out
            have h3 := (ext_block HEa.out (block_lt h1)).trans h1
            have h4 := (hU6.block _ (block_lt h3) (fun e => by have := (HOWN.out _ e).1; omega)).trans h3
            exact ⟨cs, (hUF.block _ (block_lt h4) (by show ¬ w.heap.size + 1 = w.heap.size + 1 + 1; omega)).trans h4, h2⟩)
          have HZX := Lib.hid (show w.heap.size + 3 ≤ (w6.setCell ⟨w.heap.size + 1 + 1, 2, none⟩ (.slice A6 (j + 1) c6)).heap.size from by have h1 := hU6.size; have h2 := hUF.size; have := HSZa.out; omega)
          clear s2 s3 s4 s5 hr6 hU6 hR6 hpb6 hl6 hUF hEx hb1x
          refine wpSeq_of_list [6, 7] [_, _] _ _ rfl ?_
          go_wp2
          go_roundw
          case rel => exact ⟨j + 1, A6, c6, by omega, by go_num, HR6.out, HB1x.out, HB2x.out, HPB6.out, HX6.out, HZX.out⟩
          case measure => simp [intOf]; omega
      · obtain rfl : j = ps.length := by omega
        rw [List.take_length] at HTR
        have hji : ¬ ((ps.length : Nat) : Int) < ((ps.length : Nat) : Int) := by omega
        obtain ⟨cs, hcs, hcz⟩ := HB2.out
        obtain ⟨u0, hu0⟩ : ∃ u, cs[0]? = some u := ⟨_, Array.getElem?_eq_getElem (by omega)⟩
        obtain ⟨u1, hu1⟩ : ∃ u, cs[1]? = some u := ⟨_, Array.getElem?_eq_getElem (by omega)⟩
        obtain ⟨u2, hu2⟩ : ∃ u, cs[2]? = some u := ⟨_, Array.getElem?_eq_getElem (by omega)⟩
        have e0 := (block_cell hcs 0).trans hu0
        have e1 := (block_cell hcs 1).trans hu1
        have e2 := (block_cell hcs 2).trans hu2
        have g0 := block_frozen hcs 0
        have g1 := block_frozen hcs 1
        have g2 := block_frozen hcs 2
        have l2 := block_lt hcs
        clear hcs hcz hu0 hu1 hu2
        by_cases h0 : k = 0
        · subst h0
          have wB : ∃ W, W = wr.setCell ⟨w.heap.size + 1 + 1, 0, none⟩ (.int .i64 1) := ⟨_, rfl⟩
          obtain ⟨WB, hWB⟩ := wB
          have hne : ∀ o, (⟨w.heap.size + 1 + 1, 0, none⟩ : Addr) ≠ ⟨w.heap.size + 1, o, none⟩ := fun o e => by simp only [Addr.mk.injEq] at e; omega
          have hUB : Upd (fun b => b = w.heap.size + 1 + 1) wr WB := by rw [hWB]; exact upd_setCell (a := ⟨w.heap.size + 1 + 1, 0, none⟩) _
          have HE0 : Hid (WB.cell? ⟨w.heap.size + 1, 0, none⟩ = some u0) := Lib.hid (by rw [hWB]; exact (World.cell?_setCell_other _ _ _ _ (hne 0)).trans e0)
          have HE1 : Hid (WB.cell? ⟨w.heap.size + 1, 1, none⟩ = some u1) := Lib.hid (by rw [hWB]; exact (World.cell?_setCell_other _ _ _ _ (hne 1)).trans e1)
          have HE2 : Hid (WB.cell? ⟨w.heap.size + 1, 2, none⟩ = some u2) := Lib.hid (by rw [hWB]; exact (World.cell?_setCell_other _ _ _ _ (hne 2)).trans e2)
          have HTB := Lib.hid (turnRow_upd HTR.out hUB (fun b e => by have e' : b = w.heap.size + 1 + 1 := e; omega))
          have HXB := Lib.hid (ext_updL HE.out hUB (fun b e => by have e' : b = w.heap.size + 1 + 1 := e; omega))
          have HZB := Lib.hid (Nat.le_trans hsz hUB.size)
          clear hUB hne
          go_wp2
          rw [← hWB]
          obtain ⟨W9, hW9⟩ : ∃ W9, W9 = (((WB.setCell ⟨w.heap.size + 1, 0, none⟩ (.int .i64 1)).setCell ⟨w.heap.size + 1, 1, none⟩ (.int .i64 n)).setCell ⟨w.heap.size + 1, 2, none⟩ (.slice P ps.length d)) := ⟨_, rfl⟩
          rw [← hW9]
          obtain ⟨z0, z1, z2, hu9⟩ := set3 HE0.out HE1.out HE2.out (.int .i64 1) (.int .i64 n) (.slice P ps.length d)
          rw [← hW9] at z0 z1 z2 hu9
          clear hW9
          refine bodyPost_ret (v := pav (1, n, (P, ps.length, d))) (by simp [results, Try.results35, go_sem, z0, z1, z2, pav, slv]) rfl ?_
          obtain ⟨hp, hx⟩ := turn_fin (k := 1) (n := n) HTB.out (by simp [turnL_length]) HXB.out HZB.out hu9
          exact ⟨_, rfl, by rw [turnT]; simpa using hp, hx⟩
        by_cases h1 : k = 1
        · subst h1
          have wB : ∃ W, W = wr.setCell ⟨w.heap.size + 1 + 1, 0, none⟩ (.int .i64 0) := ⟨_, rfl⟩
          obtain ⟨WB, hWB⟩ := wB
          have hne : ∀ o, (⟨w.heap.size + 1 + 1, 0, none⟩ : Addr) ≠ ⟨w.heap.size + 1, o, none⟩ := fun o e => by simp only [Addr.mk.injEq] at e; omega
          have hUB : Upd (fun b => b = w.heap.size + 1 + 1) wr WB := by rw [hWB]; exact upd_setCell (a := ⟨w.heap.size + 1 + 1, 0, none⟩) _
          have HE0 : Hid (WB.cell? ⟨w.heap.size + 1, 0, none⟩ = some u0) := Lib.hid (by rw [hWB]; exact (World.cell?_setCell_other _ _ _ _ (hne 0)).trans e0)
          have HE1 : Hid (WB.cell? ⟨w.heap.size + 1, 1, none⟩ = some u1) := Lib.hid (by rw [hWB]; exact (World.cell?_setCell_other _ _ _ _ (hne 1)).trans e1)
          have HE2 : Hid (WB.cell? ⟨w.heap.size + 1, 2, none⟩ = some u2) := Lib.hid (by rw [hWB]; exact (World.cell?_setCell_other _ _ _ _ (hne 2)).trans e2)
          have HTB := Lib.hid (turnRow_upd HTR.out hUB (fun b e => by have e' : b = w.heap.size + 1 + 1 := e; omega))
          have HXB := Lib.hid (ext_updL HE.out hUB (fun b e => by have e' : b = w.heap.size + 1 + 1 := e; omega))
          have HZB := Lib.hid (Nat.le_trans hsz hUB.size)
          clear hUB hne
          go_wp2
          rw [← hWB]
          obtain ⟨W9, hW9⟩ : ∃ W9, W9 = (((WB.setCell ⟨w.heap.size + 1, 0, none⟩ (.int .i64 0)).setCell ⟨w.heap.size + 1, 1, none⟩ (.int .i64 n)).setCell ⟨w.heap.size + 1, 2, none⟩ (.slice P ps.length d)) := ⟨_, rfl⟩
          rw [← hW9]
          obtain ⟨z0, z1, z2, hu9⟩ := set3 HE0.out HE1.out HE2.out (.int .i64 0) (.int .i64 n) (.slice P ps.length d)
          rw [← hW9] at z0 z1 z2 hu9
          clear hW9
          refine bodyPost_ret (v := pav (0, n, (P, ps.length, d))) (by simp [results, Try.results35, go_sem, z0, z1, z2, pav, slv]) rfl ?_
          obtain ⟨hp, hx⟩ := turn_fin (k := 0) (n := n) HTB.out (by simp [turnL_length]) HXB.out HZB.out hu9
          exact ⟨_, rfl, by rw [turnT]; simpa using hp, hx⟩
        by_cases h2 : k = 2
        · subst h2
          go_wp2_with fail
          refine (reverse_turn HTR.out (by rw [turnL_length]; omega)).mono ?_
          rintro e w9 ⟨rfl, htr9, hu9, hz9⟩
          have hown := turnRow_own HTR.out
          have x3 := (hu9.block _ (block_lt HB3.out) (fun e => by have := (hown _ e).1; omega)).trans HB3.out
          have nb2 : ¬ (Value.slice P ps.length d).ownBlock = some (w.heap.size + 1) := fun e => by have := (hown _ e).1; omega
          have nb3 : ¬ (Value.slice P ps.length d).ownBlock = some (w.heap.size + 1 + 1) := fun e => by have := (hown _ e).1; omega
          have HE0 := Lib.hid ((upd_cell hu9 l2 nb2 0).trans e0)
          have HE1 := Lib.hid ((upd_cell hu9 l2 nb2 1).trans e1)
          have HE2 := Lib.hid ((upd_cell hu9 l2 nb2 2).trans e2)
          replace g0 := block_frozenU hu9 l2 nb2 g0
          replace g1 := block_frozenU hu9 l2 nb2 g1
          replace g2 := block_frozenU hu9 l2 nb2 g2
          replace e0 := HE0.out
          replace e1 := HE1.out
          replace e2 := HE2.out
          replace r0 : w9.cell? ⟨w.heap.size + 1 + 1, 0, none⟩ = some (.int .i64 2) := block_cell x3 0
          replace r1 : w9.cell? ⟨w.heap.size + 1 + 1, 1, none⟩ = some (.int .i64 n) := block_cell x3 1
          replace r2 : w9.cell? ⟨w.heap.size + 1 + 1, 2, none⟩ = some (.slice P ps.length d) := block_cell x3 2
          replace l2 := Nat.lt_of_lt_of_le l2 hu9.size
          replace l3 := Nat.lt_of_lt_of_le l3 hu9.size
          have HTB := Lib.hid htr9
          have HXB := Lib.hid (ext_updL HE.out hu9 (fun b hb => by have := (hown b hb).1; omega))
          have HZB := Lib.hid (Nat.le_trans hsz hu9.size)
          clear hu9 hown htr9 x3 nb2 nb3 p0 f0 hz9
          go_wp2
          obtain ⟨W9, hW9⟩ : ∃ W9, W9 = (((w9.setCell ⟨w.heap.size + 1, 0, none⟩ (.int .i64 2)).setCell ⟨w.heap.size + 1, 1, none⟩ (.int .i64 n)).setCell ⟨w.heap.size + 1, 2, none⟩ (.slice P ps.length d)) := ⟨_, rfl⟩
          rw [← hW9]
          obtain ⟨z0, z1, z2, hu9⟩ := set3 HE0.out HE1.out HE2.out (.int .i64 2) (.int .i64 n) (.slice P ps.length d)
          rw [← hW9] at z0 z1 z2 hu9
          clear hW9
          refine bodyPost_ret (v := pav (2, n, (P, ps.length, d))) (by simp [results, Try.results35, go_sem, z0, z1, z2, pav, slv]) rfl ?_
          obtain ⟨hp, hx⟩ := turn_fin (k := 2) (n := n) HTB.out (by simp [turnL_length]) HXB.out HZB.out hu9
          exact ⟨_, rfl, by rw [turnT]; simpa using hp, hx⟩
        · have n0 : (k == 0) = false := by rw [beq_eq_false_iff_ne]; exact h0
          have n1 : (k == 1) = false := by rw [beq_eq_false_iff_ne]; exact h1
          have n2 : (k == 2) = false := by rw [beq_eq_false_iff_ne]; exact h2
          have HE0 := Lib.hid e0
          have HE1 := Lib.hid e1
          have HE2 := Lib.hid e2
          have HTB := HTR
          have HXB := HE
          have HZB := Lib.hid hsz
          clear h0 h1 h2
          go_wp2
          obtain ⟨W9, hW9⟩ : ∃ W9, W9 = (((wr.setCell ⟨w.heap.size + 1, 0, none⟩ (.int .i64 k)).setCell ⟨w.heap.size + 1, 1, none⟩ (.int .i64 n)).setCell ⟨w.heap.size + 1, 2, none⟩ (.slice P ps.length d)) := ⟨_, rfl⟩
          rw [← hW9]
          obtain ⟨z0, z1, z2, hu9⟩ := set3 HE0.out HE1.out HE2.out (.int .i64 k) (.int .i64 n) (.slice P ps.length d)
          rw [← hW9] at z0 z1 z2 hu9
          clear hW9
          refine bodyPost_ret (v := pav (k, n, (P, ps.length, d))) (by simp [results, Try.results35, go_sem, z0, z1, z2, pav, slv]) rfl ?_
          obtain ⟨hp, hx⟩ := turn_fin (k := k) (n := n) HTB.out (by simp [turnL_length]) HXB.out HZB.out hu9
          exact ⟨_, rfl, by rw [turnT, if_neg (by simpa using n0), if_neg (by simpa using n1), if_neg (by simpa using n2)]; exact hp, hx⟩
theorem turn_all : ∀ N : Nat, N ≤ 100000 → TurnAt N
  | 0, _ => fun t v w hN => by have := sizeT_pos t; omega
  | N + 1, h => turn_step (turn_all N (by omega)) (by omega)
theorem turned_any (t : Tr) (v : Value) (w : World) (hN : sizeT t ≤ 100000) (hv : PV w t v) : Calls Try.prog 35 #[v] w fun e w' => ∃ (k n : Int) (A : Option Addr) (m c : Nat), e = .returned (.agg #[.int .i64 k, .int .i64 n, .slice A m c]) ∧ PV w' (turnT t) (.agg #[.int .i64 k, .int .i64 n, .slice A m c]) ∧ Ext w w' := by
  refine (turn_all 100000 (Nat.le_refl _) t v w hN hv).mono ?_
  rintro e w' ⟨⟨k, n, A, m, c⟩, rfl, h1, h2⟩
  exact ⟨k, n, A, m, c, rfl, pvk_pv h1, h2⟩
end Go.Proofs.Ytiabmdboacpmcaa
/- ReachMore. -/
namespace Go.Proofs.Ytiabmdboacpmcaa
open Go Go.RowKit Go.Sort Go.WideMaps Go.Maps
set_option maxHeartbeats 4000000

theorem foR_low {t : Tr} {E : List Ed} {H H' N : Nat} {w0 : World} {L : Loc} {ve : Value} {w : World} (h : FoR t E H N w0 L ve w) (hh : H' ≤ H) : FoR t E H' N w0 L ve w := by
  obtain ⟨F, h1, h2, h3, h4⟩ := h
  exact ⟨F, h1, fun b hb => ⟨Nat.le_trans hh (h2 b hb).1, (h2 b hb).2⟩, rowF_low h3 hh, h4⟩
set_option maxRecDepth 100000 in
theorem more_law (v va vb : Value) (L : List Nd) (LA LB : List AR) (w : World) (hv : RdNd w v L) (ha : RdAR w va LA) (hb : RdAR w vb LB) : Calls Try.prog 9 #[v, va, vb] w fun e w' => e = .returned (.bool true) ∧ Ext w w' := by
  have HV := Lib.hid hv
  have HA := Lib.hid ha
  have HB := Lib.hid hb
  obtain ⟨A1, c1, rfl, hok1, -⟩ := ha
  obtain ⟨A2, c2, rfl, hok2, -⟩ := hb
  have HOK := Lib.hid (And.intro hok1 hok2)
  obtain ⟨na, hna⟩ : ∃ n, n = LA.length := ⟨_, rfl⟩
  obtain ⟨nb, hnb⟩ : ∃ n, n = LB.length := ⟨_, rfl⟩
  rw [← hna] at HA ⊢
  rw [← hnb] at HB ⊢
  have HN := Lib.hid (And.intro hna hnb)
  clear hv hna hnb hok1 hok2
  go_enter Try.func9, Try.ntmps9
  go_wp2_with fail
  refine (awake11_any _).mono ?_
  rintro e w1 ⟨rfl, hE1⟩
  have HE1 := Lib.hid hE1
  clear hE1
  by_cases hbna : (10 : Int) < (na : Int)
  · go_wp2_with fail
    refine (awake11_any _).mono ?_
    rintro e w2 ⟨rfl, hE2⟩
    have HE2 := Lib.hid (ext_trans HE1.out hE2)
    clear hE2
    go_wp2
    refine bodyPost_ret (results_tmp rfl _ _ _) rfl ?_
    exact ⟨rfl, HE2.out⟩
  by_cases hbnb : (10 : Int) < (nb : Int)
  · go_wp2_with fail
    refine (awake11_any _).mono ?_
    rintro e w2 ⟨rfl, hE2⟩
    have HE2 := Lib.hid (ext_trans HE1.out hE2)
    clear hE2
    go_wp2
    refine bodyPost_ret (results_tmp rfl _ _ _) rfl ?_
    exact ⟨rfl, HE2.out⟩
  go_wp2_with fail
  refine (fix_any v L _ (rdNd_ext HV.out HE1.out)).mono ?_
  rintro e w2 ⟨L', v', rfl, hr, hF, hl, hE2⟩
  have HR := Lib.hid hr
  have HF := Lib.hid hF
  have HE2 := Lib.hid (ext_trans HE1.out hE2)
  have hl8 : L'.length ≤ 8 := by omega
  clear hr hF hE2 hl
  go_wp2_with fail
  refine (tree_fix 8 (by decide) (by decide) v' L' _ HR.out HF.out hl8).mono ?_
  rintro e w3 ⟨rb, n, t, k, z, A, q, c, rfl, hn, hfit, hlst, hpv, hE3⟩
  obtain ⟨hfb, hch, -⟩ := fit_chk hfit (by decide)
  have hsz : sizeT t ≤ 300 := by have := hfit.2.1; omega
  have HLS := Lib.hid hlst
  have HPV := Lib.hid hpv
  have HE3 := Lib.hid (ext_trans HE2.out hE3)
  clear hfit hlst hpv hE3 hfb hl8
  go_wp2_with fail
  have hE4 := ext_alloc (ext_refl w3) (.cells #[.int .i64 k, .int .i64 z, .slice A q c] 30)
  have hB4 := heap_alloc_new w3 (.cells #[.int .i64 k, .int .i64 z, .slice A q c] 30)
  obtain ⟨w4, hw4⟩ : ∃ w4, w4 = w3.alloc (.cells #[.int .i64 k, .int .i64 z, .slice A q c] 30) := ⟨_, rfl⟩
  obtain ⟨p6, hp6⟩ : ∃ p6, p6 = w3.heap.size := ⟨_, rfl⟩
  rw [← hw4] at hE4 hB4 ⊢
  rw [← hp6] at hB4 ⊢
  have HB4 := Lib.hid hB4
  have HE4 := Lib.hid (ext_trans HE3.out hE4)
  have HL4 := Lib.hid (lst_ext HLS.out hE4)
  have HP4 := Lib.hid (PV_ext HPV.out hE4)
  clear hw4 hp6 hE4 hB4 HLS HPV HE3
  refine (rcheck_any t rb n 0 _ (by omega) hn HL4.out).mono ?_
  rintro e w5 ⟨rfl, hE5⟩
  have h45 := (ext_block hE5 (block_lt HB4.out)).trans HB4.out
  have HP5 := Lib.hid (PV_ext HP4.out hE5)
  have HB5 := Lib.hid h45
  have HE5 := Lib.hid (ext_trans HE4.out hE5)
  clear hE5 h45 HP4 HB4 HE4
  by_cases hz : chk t = 0
  · rw [hz]
    have HZ := Lib.hid hz
    have hna : LA.length ≤ 10 := by rw [← HN.out.1]; omega
    have hnb : LB.length ≤ 10 := by rw [← HN.out.2]; omega
    have b0 := block_cell HB5.out 0
    have b1 := block_cell HB5.out 1
    have b2 := block_cell HB5.out 2
    have bl := block_lt HB5.out
    clear hz hch
    go_wp2_with fail
    have ha5 := rdAR_ext HA.out HE5.out
    refine (forest_any t _ _ LA w5 HP5.out HZ.out ha5 (by omega)).mono ?_
    rintro e w6 ⟨w0, Lc, ve, rfl, hF6, hE6⟩
    have HF6 := Lib.hid hF6
    have HB6 := Lib.hid ((ext_block hE6 (block_lt HB5.out)).trans HB5.out)
    have HP6 := Lib.hid (PV_ext HP5.out hE6)
    have HE6 := Lib.hid (ext_trans HE5.out hE6)
    have HAB := Lib.hid (And.intro (rdAR_ext HA.out HE6.out) (rdAR_ext HB.out HE6.out))
    clear ha5 hF6 hE6 b0 b1 b2 bl
    go_wp2_with fail
    have hCE : ∀ a b, Ext w6 a → Ext a b → Ext w6 b := fun a b h h' => ext_trans h h'
    have ux0 : ∀ p : CW (Ext w6), p.val.cell? ⟨p6, 0, none⟩ = some (.int .i64 k) := fun p => block_cell ((ext_block p.ok (block_lt HB6.out)).trans HB6.out) 0
    have ux1 : ∀ p : CW (Ext w6), p.val.cell? ⟨p6, 1, none⟩ = some (.int .i64 z) := fun p => block_cell ((ext_block p.ok (block_lt HB6.out)).trans HB6.out) 1
    have ux2 : ∀ p : CW (Ext w6), p.val.cell? ⟨p6, 2, none⟩ = some (.slice A q c) := fun p => block_cell ((ext_block p.ok (block_lt HB6.out)).trans HB6.out) 2
    have uxl : ∀ p : CW (Ext w6), p6 < p.val.heap.size := fun p => ext_lt p.ok (block_lt HB6.out)
    refine wp_region_evt (C := Ext w6) hCE (ext_refl w6) [2, 4] [0] [(1, noneF elAR w6.heap.size), (3, rowF elAR w6.heap.size LA), (5, rowF elAR w6.heap.size (LA ++ LB)), (6, FoT t (edsL (LA ++ LB)) w6.heap.size)] [7, 8, 9, 10, 11] [1, 3, 5, 6] rfl (by kernel_rfl) (by kernel_rfl) (fun _ _ d _ _ h => by cases d <;> exact h) ?_
    refine wpPre_step rfl (fun K hK => ?_)
    go_simp
    refine hK _ ?_
    clear hK K
    refine wpPre_step rfl (fun K hK => ?_)
    go_simp
    refine hK _ ?_
    clear hK K
    refine wpPre_nil ?_
    refine wpC_step rfl (fun K hK => ?_)
    (try simp only [Oper.quietAt, Oper.quietUpon])
    go_simp
    refine ⟨_, fun _ => rfl, hK _ ?_⟩
    clear hK K
    refine wpC_nil ?_
    clear ux0 ux1 ux2 uxl hCE
    refine wpCh_step rfl rfl noneF_ext (fun w7 hE7 _ => ?_) (fun v48 => ?_)
    · simp only [runsAt]
      go_simp
      exact ⟨ext_trans hE7 (ext_alloc (ext_refl _) _), w7.heap.size, rfl, ext_size hE7, heap_alloc_new w7 _⟩
    refine wpCh_step rfl rfl rowF_ext (fun w7 hE7 hR7 => ?_) (fun v50 => ?_)
    · refine runs_append (t := 60) (.tmp 48) (.tmp 49) rfl rfl rfl ?_
      obtain ⟨v', w', h1, h2, h3⟩ := append_onto tpAR 60 w6.heap.size _ _ [] LA w7 (noneF_row hR7) (srcOf_acts (rdAR_ext HAB.out.1 hE7)) (by rw [List.length_nil]; omega) (ext_size hE7)
      exact ⟨v', w', h1, ext_of_upd (upd_trans (upd_of_ext hE7) (upd_grown h3) (fun i hi e => absurd hi (by have := (noneF_row hR7).2 _ e; omega))), h2⟩
    refine wpCh_step rfl rfl rowF_ext (fun w7 hE7 hR7 => ?_) (fun v52 => ?_)
    · refine runs_append (t := 60) (.tmp 50) (.tmp 51) rfl rfl rfl ?_
      obtain ⟨v', w', h1, h2, h3⟩ := append_onto tpAR 60 w6.heap.size _ _ LA LB w7 hR7 (srcOf_acts (rdAR_ext HAB.out.2 hE7)) (by omega) (ext_size hE7)
      exact ⟨v', w', h1, ext_of_upd (upd_trans (upd_of_ext hE7) (upd_grown h3) (fun i hi e => absurd hi (by have := hR7.2 _ e; omega))), h2⟩
    refine wpCh_step rfl rfl foT_ext (fun w7 hE7 hR7 => ?_) (fun v53 => ?_)
    · simp only [runsAt]
      go_simp
      refine (forest_any t _ _ (LA ++ LB) w7 (PV_ext HP6.out hE7) HZ.out (rdAR_row hR7.1 (fun x hx => (List.mem_append.1 hx).elim (HOK.out.1 x) (HOK.out.2 x))) (by rw [List.length_append]; omega)).mono ?_
      rintro e w8 ⟨wv, L8, ve8, rfl, hF8, hE8⟩
      exact ⟨_, rfl, ext_trans hE7 hE8, wv, L8, ve8, _, rfl, foR_low hF8 (ext_size hE7)⟩
    refine wpCh_nil (fun w7 hE7 hR7 => ?_)
    obtain ⟨w0', L', ve', N', rfl, hF7⟩ := hR7
    have HF7 := Lib.hid hF7
    have HE7 := Lib.hid (ext_trans HE6.out hE7)
    have HF6' := Lib.hid (foR_ext HF6.out hE7)
    clear hF7 hE7
    repeat (refine wpPre_step rfl (fun K hK => ?_); go_simp; refine hK _ ?_; clear hK K)
    refine wpPre_nil ?_
    go_wp2_with fail
    refine (pairs_foR HF7.out (edsL_nd _) (Nat.le_trans (edsL_len _) (by rw [List.length_append]; omega))).mono ?_
    rintro e w8 ⟨bq, NB, pb, rfl, hQb, hPb, -, hE8⟩
    have HQB := Lib.hid hQb
    have HPB := Lib.hid hPb
    have HF8 := Lib.hid (foR_ext HF6'.out hE8)
    have HE8 := Lib.hid (ext_trans HE7.out hE8)
    clear hQb hPb hE8
    go_wp2_with fail
    refine (pairs_foR HF8.out (edsL_nd _) (Nat.le_trans (edsL_len _) (by omega))).mono ?_
    rintro e w9 ⟨bp, NA, pa, rfl, hQa, hPa, hsa, hE9⟩
    have hne : bq ≠ bp := fun e => by have := mapG_lt HQB.out; omega
    have HNE := Lib.hid hne
    have HQA := Lib.hid hQa
    have HPA := Lib.hid hPa
    have HQB9 := Lib.hid (mapG_ext HQB.out hE9)
    have HE9 := Lib.hid (ext_trans HE8.out hE9)
    clear hQa hPa hE9 hne hsa
    go_wp2_with (first
      | (at_range; refine wpList_range_G _ rfl _ _ rfl Try.underlying65 rfl HQA.out ?_; intro wr r hr0; have HLR := Lib.hid hr0; clear hr0; intro hrng hEr hs2)
      | go_in)
    have HRN := Lib.hid hrng
    have HER := Lib.hid hEr
    clear hrng hEr hs2
    go_simp
    go_loopw [15] (fun _ wn => ∃ (done : List Two), RngG kQ eI bp r NA pa done wn ∧ Ext w9 wn) (fun _ wn => wn.rangeLeft bp r)
    case atStart => exact ⟨[], HRN.out, HER.out⟩
    case round =>
      rename World => wn
      obtain ⟨done, hR, hE⟩ := hrel
      have HR := Lib.hid hR
      have HE := Lib.hid hE
      clear hR hE
      go_wp2_with (first
        | (at_next; refine wpList_next_G wn rfl _ rfl rfl HR.out ?_ ?_)
        | go_in)
      · intro hall
        have HF := Lib.hid (ext_trans HE9.out HE.out)
        clear hall
        go_wp2
        refine bodyPost_ret (results_tmp rfl _ _ _) rfl ?_
        exact ⟨rfl, HF.out⟩
      · intro x lasts w3' hfx hnx hR3 hlt3 hg3 hs3 hent
        rw [show kQ.val x = .agg #[.int .i64 x.a, .int .i64 x.b] from rfl, show eI.val lasts = .int .i64 lasts from rfl] at hent ⊢
        obtain ⟨xa, xb⟩ := x
        obtain ⟨u, hu, hlu⟩ := prsOf_le HPA.out HPB.out (leG_more LA LB) hfx
        have hE3 : Ext w9 w3' := ext_of_upd (upd_trans (upd_of_ext HE.out) (upd_grown hg3) (fun j hj e => absurd hj (by have h5 : r = j := Option.some.inj e; have := HLR.out; omega)))
        have hok : ok2 ⟨xa, xb⟩ := (mapG_out HQA.out hfx).1
        have hlk : (Instr.lookup 65 (.map (some bq)) (.agg #[.int .i64 xa, .int .i64 xb]) true).run Try.prog (w3'.alloc (.cells #[.int .i64 xa, .int .i64 xb] 68)) = .ok (.tuple #[.int .i64 u, .bool true]) (w3'.alloc (.cells #[.int .i64 xa, .int .i64 xb] 68)) := by
          have h3 := look2_G Try.underlying65 (mapG_ext HQB9.out (ext_trans hE3 (ext_alloc (ext_refl _) (.cells #[.int .i64 xa, .int .i64 xb] 68)))) (x := ⟨xa, xb⟩) hok
          rw [hu] at h3
          exact h3
        have HR3 := Lib.hid (rngG_ext hR3 (ext_alloc (ext_refl _) (.cells #[.int .i64 xa, .int .i64 xb] 68)))
        have HL3 := Lib.hid (show (w3'.alloc (.cells #[.int .i64 xa, .int .i64 xb] 68)).rangeLeft bp r < wn.rangeLeft bp r by rw [left_ext hR3 (ext_alloc (ext_refl _) _)]; exact hlt3)
        have HE3 := Lib.hid (ext_trans hE3 (ext_alloc (ext_refl _) (.cells #[.int .i64 xa, .int .i64 xb] 68)))
        have hlt : ¬ u < lasts := by omega
        clear hfx hnx hR3 hlt3 hg3 hs3 hu hE3 hok
        go_wp2
        go_roundw
        case rel => exact ⟨_, HR3.out, HE3.out⟩
        case measure => exact HL3.out
  · have hzb : decide (chk t = 0) = false := by simpa using hz
    go_wp2
    refine bodyPost_ret (results_tmp rfl _ _ _) rfl ?_
    exact ⟨rfl, HE5.out⟩
end Go.Proofs.Ytiabmdboacpmcaa
/- ReachTurns. -/
namespace Go.Proofs.Ytiabmdboacpmcaa
open Go Go.RowKit Go.Sort Go.WideMaps Go.Maps
set_option maxHeartbeats 4000000

theorem flip_back (w : List Sy) : flipW w = backW w := rfl
theorem turn_prs {t : Tr} {E : Gr3} {p p' : Prs} (h : PrsOf (Words t) E p) (h' : PrsOf (Words (turnT t)) E p') (x y : Int) : p' ⟨y, x⟩ = p ⟨x, y⟩ := prsOf_back h h' (fun w hw => (turn_words t w).2 hw) (fun w hw => by
  have h1 := (turn_words t (backW w)).1
  rw [show flipW (backW w) = w from by rw [← flip_back]; exact flip_flip w] at h1
  exact h1 hw) x y
theorem nodup2_le : ∀ {L M : List Two}, L.Nodup → (∀ x ∈ L, x ∈ M) → L.length ≤ M.length
  | [], _, _, _ => Nat.zero_le _
  | x :: L, M, hL, h => by
    obtain ⟨h1, h2⟩ := List.nodup_cons.1 hL
    have hx := h x (List.mem_cons_self ..)
    have := nodup2_le (M := M.erase x) h2 (fun y hy => (List.mem_erase_of_ne (a := y) (b := x) (fun (e : y = x) => h1 (by rw [← e]; exact hy))).2 (h y (List.mem_cons_of_mem _ hy)))
    rw [List.length_erase_of_mem hx] at this
    have := List.length_pos_of_mem hx
    rw [List.length_cons]
    omega
theorem turn_card {bp bq NA NB : Nat} {p p' : Two → Option Int} {w w' : World} (h : MapQ bp NA p w) (h' : MapQ bq NB p' w') (hp : ∀ x y, p' ⟨y, x⟩ = p ⟨x, y⟩) : NA = NB := by
  obtain ⟨X, hX1, hX2, hX3⟩ := mapG_keys h
  obtain ⟨Y, hY1, hY2, hY3⟩ := mapG_keys h'
  have hi : ∀ {L : List Two}, L.Nodup → (L.map fun q : Two => (⟨q.b, q.a⟩ : Two)).Nodup := fun hL => List.pairwise_map.2 (hL.imp (fun {a b} hne e => hne (by
    obtain ⟨a1, a2⟩ := a
    obtain ⟨b1, b2⟩ := b
    simp only [Two.mk.injEq] at e
    rw [e.1, e.2])))
  have h1 := nodup2_le (hi hX1) (M := Y) (fun z hz => by
    obtain ⟨⟨a, b⟩, hq, rfl⟩ := List.mem_map.1 hz
    rw [hY2, hp]
    exact (hX2 _).1 hq)
  have h2 := nodup2_le (hi hY1) (M := X) (fun z hz => by
    obtain ⟨⟨a, b⟩, hq, rfl⟩ := List.mem_map.1 hz
    rw [hX2]
    have h3 := (hY2 _).1 hq
    rw [hp] at h3
    exact h3)
  rw [List.length_map] at h1 h2
  omega
set_option maxRecDepth 100000 in
theorem turnedR_law (v va : Value) (L : List Nd) (LA : List AR) (w : World) (hv : RdNd w v L) (ha : RdAR w va LA) : Calls Try.prog 13 #[v, va] w fun e w' => e = .returned (.bool true) ∧ Ext w w' := by
  have HV := Lib.hid hv
  have HA := Lib.hid ha
  obtain ⟨A1, c1, rfl, hok1, -⟩ := ha
  obtain ⟨na, hna⟩ : ∃ n, n = LA.length := ⟨_, rfl⟩
  rw [← hna] at HA ⊢
  have HN := Lib.hid hna
  clear hv hna hok1
  go_enter Try.func13, Try.ntmps13
  go_wp2_with fail
  refine (awake11_any _).mono ?_
  rintro e w1 ⟨rfl, hE1⟩
  have HE1 := Lib.hid hE1
  clear hE1
  by_cases hbna : (12 : Int) < (na : Int)
  · go_wp2_with fail
    refine (awake11_any _).mono ?_
    rintro e w2 ⟨rfl, hE2⟩
    have HE2 := Lib.hid (ext_trans HE1.out hE2)
    clear hE2
    go_wp2
    refine bodyPost_ret (results_tmp rfl _ _ _) rfl ?_
    exact ⟨rfl, HE2.out⟩
  go_wp2_with fail
  refine (fix_any v L _ (rdNd_ext HV.out HE1.out)).mono ?_
  rintro e w2 ⟨L', v', rfl, hr, hF, hl, hE2⟩
  have HR := Lib.hid hr
  have HF := Lib.hid hF
  have HE2 := Lib.hid (ext_trans HE1.out hE2)
  have hl8 : L'.length ≤ 8 := by omega
  clear hr hF hE2 hl
  go_wp2_with fail
  refine (tree_fix 8 (by decide) (by decide) v' L' _ HR.out HF.out hl8).mono ?_
  rintro e w3 ⟨rb, n, t, k, z, A, q, c, rfl, hn, hfit, hlst, hpv, hE3⟩
  obtain ⟨hfb, hch, -⟩ := fit_chk hfit (by decide)
  have hsz : sizeT t ≤ 300 := by have := hfit.2.1; omega
  have HLS := Lib.hid hlst
  have HPV := Lib.hid hpv
  have HE3 := Lib.hid (ext_trans HE2.out hE3)
  clear hfit hlst hpv hE3 hfb hl8
  go_wp2_with fail
  have hE4 := ext_alloc (ext_refl w3) (.cells #[.int .i64 k, .int .i64 z, .slice A q c] 30)
  have hB4 := heap_alloc_new w3 (.cells #[.int .i64 k, .int .i64 z, .slice A q c] 30)
  obtain ⟨w4, hw4⟩ : ∃ w4, w4 = w3.alloc (.cells #[.int .i64 k, .int .i64 z, .slice A q c] 30) := ⟨_, rfl⟩
  obtain ⟨p6, hp6⟩ : ∃ p6, p6 = w3.heap.size := ⟨_, rfl⟩
  rw [← hw4] at hE4 hB4 ⊢
  rw [← hp6] at hB4 ⊢
  have HB4 := Lib.hid hB4
  have HE4 := Lib.hid (ext_trans HE3.out hE4)
  have HL4 := Lib.hid (lst_ext HLS.out hE4)
  have HP4 := Lib.hid (PV_ext HPV.out hE4)
  clear hw4 hp6 hE4 hB4 HLS HPV HE3
  refine (rcheck_any t rb n 0 _ (by omega) hn HL4.out).mono ?_
  rintro e w5 ⟨rfl, hE5⟩
  have h45 := (ext_block hE5 (block_lt HB4.out)).trans HB4.out
  have HP5 := Lib.hid (PV_ext HP4.out hE5)
  have HB5 := Lib.hid h45
  have HE5 := Lib.hid (ext_trans HE4.out hE5)
  clear hE5 h45 HP4 HB4 HE4
  by_cases hz : chk t = 0
  · rw [hz]
    have HZ := Lib.hid hz
    have hna : LA.length ≤ 12 := by rw [← HN.out]; omega
    have b0 := block_cell HB5.out 0
    have b1 := block_cell HB5.out 1
    have b2 := block_cell HB5.out 2
    have bl := block_lt HB5.out
    clear hz hch
    go_wp2_with fail
    have ha5 := rdAR_ext HA.out HE5.out
    refine (forest_any t _ _ LA w5 HP5.out HZ.out ha5 (by omega)).mono ?_
    rintro e w6 ⟨w0, Lc, ve, rfl, hF6, hE6⟩
    have HF6 := Lib.hid hF6
    have HB6 := Lib.hid ((ext_block hE6 (block_lt HB5.out)).trans HB5.out)
    have HP6 := Lib.hid (PV_ext HP5.out hE6)
    have HE6 := Lib.hid (ext_trans HE5.out hE6)
    clear ha5 hF6 hE6 b0 b1 b2 bl
    have b0 := block_cell HB6.out 0
    have b1 := block_cell HB6.out 1
    have b2 := block_cell HB6.out 2
    have bl := block_lt HB6.out
    go_wp2_with fail
    refine (turned_any t _ w6 (by omega) HP6.out).mono ?_
    rintro e w7 ⟨k7, n7, A7, m7, c7, rfl, hp7, hE7⟩
    have HF7 := Lib.hid (foR_ext HF6.out hE7)
    have HP7 := Lib.hid hp7
    have HE7 := Lib.hid (ext_trans HE6.out hE7)
    clear hp7 hE7 b0 b1 b2 bl
    go_wp2_with fail
    refine (forest_any (turnT t) _ _ LA w7 HP7.out ((turn_chk t).trans HZ.out) (rdAR_ext HA.out HE7.out) (by omega)).mono ?_
    rintro e w8 ⟨w0', Lc', ve', rfl, hG8, hE8⟩
    have HG8 := Lib.hid hG8
    have HF8 := Lib.hid (foR_ext HF7.out hE8)
    have HE8 := Lib.hid (ext_trans HE7.out hE8)
    clear hG8 hE8
    go_wp2_with fail
    refine (pairs_foR HF8.out (edsL_nd _) (Nat.le_trans (edsL_len _) (by omega))).mono ?_
    rintro e w9 ⟨bp, NA, pa, rfl, hQa, hPa, -, hE9⟩
    have HQA := Lib.hid hQa
    have HPA := Lib.hid hPa
    have HG9 := Lib.hid (foR_ext HG8.out hE9)
    have HE9 := Lib.hid (ext_trans HE8.out hE9)
    clear hQa hPa hE9
    go_wp2_with fail
    refine (pairs_foR HG9.out (edsL_nd _) (Nat.le_trans (edsL_len _) (by omega))).mono ?_
    rintro e wx ⟨bq, NB, pb, rfl, hQb, hPb, hsb, hEx⟩
    have hne : bp ≠ bq := fun e => by have := mapG_lt HQA.out; omega
    have HNE := Lib.hid hne
    have HQB := Lib.hid hQb
    have HPB := Lib.hid (turn_prs HPA.out hPb)
    have HQAx := Lib.hid (mapG_ext HQA.out hEx)
    have HEX := Lib.hid (ext_trans HE9.out hEx)
    have HNN := Lib.hid (turn_card HQAx.out hQb HPB.out)
    clear hQb hPb hEx hne hsb
    go_wp2_with (first
      | (at_range; refine wpList_range_G _ rfl _ _ rfl Try.underlying65 rfl HQAx.out ?_; intro wr r hr0; have HLR := Lib.hid hr0; clear hr0; intro hrng hEr hs2)
      | go_in)
    have HRN := Lib.hid hrng
    have HER := Lib.hid hEr
    clear hrng hEr hs2
    go_simp
    go_loopw [14] (fun _ wn => ∃ (done : List Two), RngG kQ eI bp r NA pa done wn ∧ Ext wx wn) (fun _ wn => wn.rangeLeft bp r)
    case atStart => exact ⟨[], HRN.out, HER.out⟩
    case round =>
      rename World => wn
      obtain ⟨done, hR, hE⟩ := hrel
      have HR := Lib.hid hR
      have HE := Lib.hid hE
      clear hR hE
      go_wp2_with (first
        | (at_next; refine wpList_next_G wn rfl _ rfl rfl HR.out ?_ ?_)
        | go_in)
      · intro hall
        have HF := Lib.hid (ext_trans HEX.out HE.out)
        have hl1 : ∀ ty, (Builtin.len_ #[65] ty #[.map (some bp)]).run Try.prog wn = .ok (.int .i64 ((NA : Nat) : Int)) wn := fun ty => len_G Try.underlying65 (rngG_map HR.out)
        have hl2 : ∀ ty, (Builtin.len_ #[65] ty #[.map (some bq)]).run Try.prog wn = .ok (.int .i64 ((NA : Nat) : Int)) wn := fun ty => by rw [HNN.out]; exact len_G Try.underlying65 (mapG_ext HQB.out HE.out)
        clear hall
        go_wp2
        refine bodyPost_ret (results_tmp rfl _ _ _) rfl ?_
        exact ⟨by simp, HF.out⟩
      · intro x lasts w3' hfx hnx hR3 hlt3 hg3 hs3 hent
        rw [show kQ.val x = .agg #[.int .i64 x.a, .int .i64 x.b] from rfl, show eI.val lasts = .int .i64 lasts from rfl] at hent ⊢
        obtain ⟨xa, xb⟩ := x
        have hE3 : Ext wx w3' := ext_of_upd (upd_trans (upd_of_ext HE.out) (upd_grown hg3) (fun j hj e => absurd hj (by have h5 : r = j := Option.some.inj e; have := HLR.out; omega)))
        have hok : ok2 ⟨xa, xb⟩ := (mapG_out HQAx.out hfx).1
        have hlk : (Instr.lookup 65 (.map (some bq)) (.agg #[.int .i64 xb, .int .i64 xa]) true).run Try.prog (w3'.alloc (.cells #[.int .i64 xa, .int .i64 xb] 68)) = .ok (.tuple #[.int .i64 lasts, .bool true]) (w3'.alloc (.cells #[.int .i64 xa, .int .i64 xb] 68)) := by
          have h3 := look2_G Try.underlying65 (mapG_ext HQB.out (ext_trans hE3 (ext_alloc (ext_refl _) (.cells #[.int .i64 xa, .int .i64 xb] 68)))) (x := ⟨xb, xa⟩) ⟨hok.2, hok.1⟩
          rw [HPB.out, hfx] at h3
          exact h3
        have HR3 := Lib.hid (rngG_ext hR3 (ext_alloc (ext_refl _) (.cells #[.int .i64 xa, .int .i64 xb] 68)))
        have HL3 := Lib.hid (show (w3'.alloc (.cells #[.int .i64 xa, .int .i64 xb] 68)).rangeLeft bp r < wn.rangeLeft bp r by rw [left_ext hR3 (ext_alloc (ext_refl _) _)]; exact hlt3)
        have HE3 := Lib.hid (ext_trans hE3 (ext_alloc (ext_refl _) (.cells #[.int .i64 xa, .int .i64 xb] 68)))
        clear hfx hnx hR3 hlt3 hg3 hs3 hE3 hok
        go_wp2
        go_roundw
        case rel => exact ⟨_, HR3.out, HE3.out⟩
        case measure => exact HL3.out
  · have hzb : decide (chk t = 0) = false := by simpa using hz
    go_wp2
    refine bodyPost_ret (results_tmp rfl _ _ _) rfl ?_
    exact ⟨rfl, HE5.out⟩
end Go.Proofs.Ytiabmdboacpmcaa
/- ReachTurns: by the path turned round the same nodes are paired the other way, for as long. No condition. -/
namespace Go.Proofs.Ytiabmdboacpmcaa
open Go.ChangeShapes Go.WideShapes Go.ChangeAt Go.WideMaps Go.WideElems Go.RowKit

set_option maxRecDepth 100000 in
theorem turned_lifted (os : Os) (started : os.Started) (H : Type) (enc : TypeId × Value → H) :
    ReturnsInHanded {} Try.checked os 13 .any (Rows.reachTurnsSpec.pre6 enc Try.prog Try.f13 Rows.reachTurnsRow.domain false) (Rows.reachTurnsSpec.post enc Try.prog Try.f13 false true false false) := by
  refine returnsInHanded_of_change_sized (C := Try.checked) own started (by kernel_rfl) Try.func13
    (ChangeSpec.witness6 (enc := enc) (C := Try.checked) false ⟨#[], #[.slice none 0 0, .slice none 0 0], []⟩ 8 (by kernel_rfl) (by kernel_rfl) (by kernel_rfl) (by kernel_rfl)) ?_
  intro W base args ds gs before hval0 hW _ hsz0 _
  clear hsz0
  have hval : ∀ (j : Nat) t v, Try.f13.params[j]? = some t → args[j]? = some v → Value.okWide Try.prog W .any base t v := hval0
  have hW' := hW
  obtain ⟨p, q, hA0, hV, rfl, hfz, hnd⟩ := hW
  have hA : DataW.TrodAll enc Try.prog W 0 (fun _ => true) true Try.f13.params.toList args.toList ds p := hA0
  rw [Try.params13] at hA hval
  obtain ⟨v0, vs0, d0, ds0, p0, q0, hargs, rfl, rfl, h0, r0⟩ := trodAll_cons hA
  obtain ⟨v1, vs1, d1, ds1, p1, q1, rfl, rfl, rfl, h1, r1⟩ := trodAll_cons r0
  obtain ⟨rfl, rfl, rfl⟩ := trodAll_nil r1
  obtain rfl : args = #[v0, v1] := by cases args; simp_all
  obtain ⟨rfl, rfl⟩ := trodVars_none hV
  have lt0 : ∀ x ∈ p0, x.block < W.heap.size := by obtain ⟨m, hm⟩ := h0; exact DataW.trod_lt m _ _ _ hm
  obtain ⟨L0, ha0, hl0⟩ := open_nodes (hval 0 22 v0 rfl rfl) h0
  have lt1 : ∀ x ∈ p1, x.block < W.heap.size := by obtain ⟨m, hm⟩ := h1; exact DataW.trod_lt m _ _ _ hm
  obtain ⟨L1, ha1⟩ := open_acts (hval 1 60 v1 rfl rfl) h1
  clear hA0 hval0
  refine (turnedR_law v0 v1 L0 L1 W ha0 ha1).mono fun e W' ⟨he, bel⟩ => ?_
  subst he
  have bel : Below W.heap.size W W' := bel
  exact ⟨_, rfl, _, _, _, [], _, [], hW', trodAll_mk1 (shut_bool Try.underlying4 _), (trodAll_cons_mk (Below.trod laidOut (by kernel_rfl) (of_decide_eq_true (by kernel_rfl)) h0 bel lt0) (trodAll_cons_mk (Below.trod laidOut (by kernel_rfl) (of_decide_eq_true (by kernel_rfl)) h1 bel lt1) trodAll_mk0)), rfl, bel.frame _, fun h => by cases h⟩

theorem turned_holds : Rows.ReachTurnsSaid :=
  OpenClaim.holds_of_wide 13 Try.f13 rfl rfl rfl rfl rfl rfl rfl ⟨rfl, rfl, rfl, rfl, rfl⟩ rfl rfl rfl rfl rfl (by kernel_rfl) Try.func13 (by kernel_rfl)
    (of_decide_eq_true (by kernel_rfl)) (by unfold Func.isWrapper; first | (rw [if_pos (by decide +kernel)]; kernel_rfl) | (rw [if_neg (by decide +kernel)]; exact ⟨rfl, rfl⟩))
    (fun os started H enc _ => turned_lifted os started H enc)
#print axioms turned_holds
end Go.Proofs.Ytiabmdboacpmcaa
