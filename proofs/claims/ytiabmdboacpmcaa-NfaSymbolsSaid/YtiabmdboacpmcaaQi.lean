/- Rows of structs as the library's contracts see them; slices.Reverse at paths. -/
import Derived.Shelf.SlicesQ.Reverse
import Derived.Test.YtiabmdboacpmcaaPu
import Derived.Test.YtiabmdboacpmcaaQd
namespace Go.Proofs.Ytiabmdboacpmcaa
open Go Go.RowKit Go.Sort
set_option maxHeartbeats 1000000

theorem flatK_list {α : Type} [Inhabited α] (E : El α) (L : List α) : flatK E.enc E.size L.toArray = (flatE E L).toArray := by
  refine ext_get! (by simp [flatE_length]) fun t ht => ?_
  have ht' : t < L.toArray.size * E.size := by simpa using ht
  have hs := E.hs
  rw [get_flatK _ _ _ t ht']
  have hi : t / E.size < L.length := Nat.div_lt_of_lt_mul (by rw [Nat.mul_comm]; simpa using ht')
  have hj : t % E.size < E.size := Nat.mod_lt _ hs
  have hx : L[t / E.size]? = some L[t / E.size] := List.getElem?_eq_getElem hi
  have h1 := flatE_at E L (t / E.size) _ hx (t % E.size) hj
  rw [Nat.div_add_mod'] at h1
  have e1 : L.toArray[t / E.size]! = L[t / E.size] := by simp [hi]
  rw [e1]
  have hjl : t % E.size < (E.enc L[t / E.size]).length := by rw [E.hl]; exact hj
  rw [List.getElem?_eq_getElem hjl] at h1
  rw [getElem!_pos (E.enc L[t / E.size]) (t % E.size) hjl]
  have h2 := (List.getElem?_eq_some_iff.1 h1)
  obtain ⟨h3, h4⟩ := h2
  rw [getElem!_pos (flatE E L).toArray t (by simpa using h3)]
  simp [h4]
theorem holdsK_row {α : Type} [Inhabited α] {E : El α} {w : World} {g n c : Nat} {L : List α} (h : rowE E w (.slice (some ⟨g, 0, none⟩) n c) L) : HoldsK E.enc E.size w g 0 L.toArray := by
  rcases rowE_cases h with ⟨h1, _⟩ | ⟨g', cap, cur, h1, hg, _, _, h2, h3⟩
  · cases h1
  · simp only [Value.slice.injEq, Option.some.injEq, Addr.mk.injEq, and_true] at h1
    obtain ⟨rfl, -, -⟩ := h1
    unfold HoldsK
    rw [flatK_list]
    intro j hj
    have hj' : j < (flatE E L).length := by simpa using hj
    rw [Nat.zero_add]
    refine ⟨?_, block_frozen hg j⟩
    rw [block_cell hg j, getElem!_pos (flatE E L).toArray j hj]
    have h4 : (cur.toList.take (L.length * E.size))[j]? = some (flatE E L)[j] := by rw [h3]; exact List.getElem?_eq_getElem hj'
    rw [List.getElem?_take] at h4
    split at h4
    · simpa using h4
    · cases h4
theorem row_putK {α : Type} [Inhabited α] {E : El α} {w : World} {g n c : Nat} {L L' : List α} (h : rowE E w (.slice (some ⟨g, 0, none⟩) n c) L) (hl : L'.length = L.length) (m : Nat) (os : Array Obj) :
    rowE E (grow (putRowK E.enc E.size (Sort.ahead w m) g 0 L'.toArray) os) (.slice (some ⟨g, 0, none⟩) n c) L' ∧ Upd (fun b => b = g) w (grow (putRowK E.enc E.size (Sort.ahead w m) g 0 L'.toArray) os) := by
  rcases rowE_cases h with ⟨h1, _⟩ | ⟨g', cap, cur, h1, hg, h4, h5, h2, h3⟩
  · cases h1
  · simp only [Value.slice.injEq, Option.some.injEq, Addr.mk.injEq, and_true] at h1
    obtain ⟨rfl, rfl, rfl⟩ := h1
    unfold putRowK
    rw [flatK_list]
    have hlt : g < w.heap.size := block_lt hg
    have hb : (grow (putRow id (Sort.ahead w m) g 0 (flatE E L').toArray) os).heap[g]? = some (.cells (putCells id 0 (flatE E L').toArray cur) E.ty (0, 0)) := by
      rw [heap_grow_old _ _ (by simpa [putRow, mapBlock, Sort.ahead] using hlt)]
      simp [putRow, mapBlock, Sort.ahead, Array.getElem?_modify, hg, onCells]
    have hfl : (flatE E L').length = L.length * E.size := by rw [flatE_length, hl]
    refine ⟨⟨by rw [flatE_length], .inr ⟨g, c, _, by rw [hl], Nat.zero_le _, hb, by omega, h5, by simp [putCells, h2], ?_⟩⟩, rfl, rfl, rfl, by simp [grow, putRow, mapBlock, Sort.ahead], fun k hk hn => ?_⟩
    · have hle : L.length * E.size ≤ cur.size := by rw [h2]; exact Nat.mul_le_mul_right _ h4
      rw [hl]
      apply List.ext_getElem?
      intro j
      by_cases hj : j < L.length * E.size
      · rw [List.getElem?_take_of_lt hj, Array.getElem?_toList]
        simp [putCells, show j < (flatE E L').length by omega, show j < cur.size by omega]
      · rw [List.getElem?_take_eq_none (by omega), List.getElem?_eq_none (by omega)]
    · have h6 : k ≠ g := hn
      rw [heap_grow_old _ _ (by simpa [putRow, mapBlock, Sort.ahead] using hk)]
      simp only [putRow, mapBlock, Sort.ahead, Array.getElem?_modify]
      rw [if_neg (fun e => h6 e.symm)]
theorem grow_nil (w : World) : grow w #[] = w := by simp [grow]

def Try.laysR68_ren : Go.Shelf.Ren := ⟨fun | 35 => 68 | n => n, fun | 22 => 28 | 23 => 30 | 0 => 0 | 3 => 3 | 4 => 4 | n => n, fun | n => n⟩
theorem Try.laysR68 : Go.Proofs.SlLaysE0.n35 Try.prog Try.laysR68_ren := {
  mixed := by kernel_rfl
  f35 := ⟨Try.f68.name, by decide, Try.func68.trans (congrArg some (by kernel_rfl))⟩
  t0 := Try.underlying0
  a0 := Try.isAgg0
  z0 := Try.sizeOf0
  v0 := Try.zeroValue0
  t3 := Try.underlying3
  a3 := Try.isAgg3
  z3 := Try.sizeOf3
  v3 := Try.zeroValue3
  t4 := Try.underlying4
  a4 := Try.isAgg4
  z4 := Try.sizeOf4
  v4 := Try.zeroValue4
  t22 := Try.underlying28
  a22 := Try.isAgg28
  z22 := Try.sizeOf28
  v22 := Try.zeroValue28 }
theorem reverse_any (H : Nat) (v : Value) (L : List PaV) (w : World) (h : rowF elP H L v w) (hm : L.length ≤ 1000000) : Calls Try.prog 68 #[v] w fun e w' => e = .returned (.tuple #[]) ∧ rowF elP H L.reverse v w' ∧ Upd (fun b => v.ownBlock = some b) w w' := by
  rcases rowE_cases h.1 with ⟨rfl, rfl⟩ | ⟨g, cap, cur, rfl, -, -, -, -, -⟩
  · refine (AnyQ.slices_Reverse_empty Try.laysR68 none 0 w).mono ?_
    rintro e w' ⟨rfl, rfl⟩
    exact ⟨rfl, rowF_nil _ _, upd_refl⟩
  · have hr := AnyQ.slices_Reverse Try.laysR68 3 Try.isAgg30 Try.sizeOf30 elP.enc elP.hl elP.h1 g 0 cap L.toArray w (holdsK_row h.1) (by simp; omega)
    simp only [List.size_toArray] at hr
    refine hr.mono ?_
    rintro e w' ⟨rfl, n, rfl⟩
    have hp := row_putK (L' := L.reverse) h.1 (by simp) n #[]
    rw [grow_nil] at hp
    rw [List.reverse_toArray]
    exact ⟨rfl, ⟨hp.1, h.2⟩, upd_mono hp.2 (fun b _ e => by rw [e]; rfl)⟩
end Go.Proofs.Ytiabmdboacpmcaa
