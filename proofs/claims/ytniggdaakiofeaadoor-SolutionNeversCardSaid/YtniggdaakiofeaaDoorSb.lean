/- How rows and tables lie. -/
import Derived.WalkKit
import Derived.WalkSpells
import Derived.WalkLawsBesides
import Derived.Lib.Hide
import Derived.BigQuiet
import Derived.Deep.DeepCutAuto
import Derived.Deep.QuietTactic
import Derived.Deep.RegionHeld3
import Derived.StillTailTactics
import Derived.OwnWalk
import Derived.Shelf.Abstract
import Derived.KernelRfl
import Derived.TacticsInMore
import Derived.Test.YtniggdaakiofeaaDoorProg
import Derived.Test.YtniggdaakiofeaaDoorGr
import Derived.Test.YtniggdaakiofeaaDoorSq
namespace Go.Proofs.YtniggdaakiofeaaDoor
open Go Go.RowKit Go.Sort
set_option maxHeartbeats 800000

def elS : El ByteArray := ⟨fun s => [.string s], 1, 9, by decide, fun _ => rfl, fun x u hu => by rw [List.mem_singleton.1 hu]; rfl⟩
def elI : El Int := ⟨fun n => [.int .i64 n], 1, 3, by decide, fun _ => rfl, fun x u hu => by rw [List.mem_singleton.1 hu]; rfl⟩
/-- a slice, as it is told -/
abbrev Sl := Option Addr × Nat × Nat
def slV (s : Sl) : Value := .slice s.1 s.2.1 s.2.2
def elW : El Sl := ⟨fun s => [slV s], 1, 41, by decide, fun _ => rfl, fun x u hu => by rw [List.mem_singleton.1 hu]; rfl⟩
noncomputable def tpS : Tp Tryd.prog 28 elS := ⟨(Tryd.prog.info? 9).get (by kernel_rfl), .string ⟨#[]⟩, 16, Tryd.underlying28, by kernel_rfl, by kernel_rfl, by kernel_rfl, by kernel_rfl, rfl, by decide⟩
noncomputable def tpI : Tp Tryd.prog 41 elI := ⟨(Tryd.prog.info? 3).get (by kernel_rfl), .int .i64 0, 8, Tryd.underlying41, by kernel_rfl, by kernel_rfl, by kernel_rfl, by kernel_rfl, rfl, by decide⟩
noncomputable def tpW : Tp Tryd.prog 29 elW := ⟨(Tryd.prog.info? 41).get (by kernel_rfl), .slice none 0 0, 24, Tryd.underlying29, by kernel_rfl, by kernel_rfl, by kernel_rfl, by kernel_rfl, rfl, by decide⟩

theorem rowS_cell {w : World} {g n c : Nat} {L : List ByteArray} (h : rowE elS w (.slice (some ⟨g, 0, none⟩) n c) L) {i : Nat} {x : ByteArray} (hx : L[i]? = some x) : w.cell? ⟨g, i, none⟩ = some (.string x) := by
  have := rowE_cell h hx (j := 0) (u := .string x) rfl
  simpa [elS] using this
theorem rowI_cell {w : World} {g n c : Nat} {L : List Int} (h : rowE elI w (.slice (some ⟨g, 0, none⟩) n c) L) {i : Nat} {x : Int} (hx : L[i]? = some x) : w.cell? ⟨g, i, none⟩ = some (.int .i64 x) := by
  have := rowE_cell h hx (j := 0) (u := .int .i64 x) rfl
  simpa [elI] using this
theorem rowW_cell {w : World} {g n c : Nat} {L : List Sl} (h : rowE elW w (.slice (some ⟨g, 0, none⟩) n c) L) {i : Nat} {x : Sl} (hx : L[i]? = some x) : w.cell? ⟨g, i, none⟩ = some (slV x) := by
  have := rowE_cell h hx (j := 0) (u := slV x) rfl
  simpa [elW] using this

/-- a slice of strings, of numbers, that reads as a list -/
def RdS (w : World) (v : Value) (L : List ByteArray) : Prop := ∃ A c, v = .slice A L.length c ∧ L.length ≤ c ∧ (L ≠ [] → ∃ b off, A = some ⟨b, off, none⟩ ∧ b < w.heap.size ∧ ∀ (i : Nat) (x : ByteArray), L[i]? = some x → w.cell? ⟨b, off + i, none⟩ = some (.string x))
def RdI (w : World) (v : Value) (L : List Int) : Prop := ∃ A c, v = .slice A L.length c ∧ L.length ≤ c ∧ (L ≠ [] → ∃ b off, A = some ⟨b, off, none⟩ ∧ b < w.heap.size ∧ ∀ (i : Nat) (x : Int), L[i]? = some x → w.cell? ⟨b, off + i, none⟩ = some (.int .i64 x))
def RdW (w : World) (v : Value) (R : List (List Int)) : Prop := ∃ A c, v = .slice A R.length c ∧ R.length ≤ c ∧ (R ≠ [] → ∃ b off, A = some ⟨b, off, none⟩ ∧ b < w.heap.size ∧ ∀ (i : Nat) (x : List Int), R[i]? = some x → ∃ u, w.cell? ⟨b, off + i, none⟩ = some u ∧ RdI w u x)
theorem rdS_row {w : World} {v : Value} {L : List ByteArray} (h : rowE elS w v L) : RdS w v L := by
  obtain ⟨A, c, rfl⟩ := rowE_form h
  refine ⟨A, c, rfl, (rowE_cap h).2, fun hne => ?_⟩
  obtain ⟨g, rfl, hg⟩ := rowE_some h hne
  exact ⟨g, 0, rfl, hg, fun i x hx => by rw [Nat.zero_add]; exact rowS_cell h hx⟩
theorem rdI_row {w : World} {v : Value} {L : List Int} (h : rowE elI w v L) : RdI w v L := by
  obtain ⟨A, c, rfl⟩ := rowE_form h
  refine ⟨A, c, rfl, (rowE_cap h).2, fun hne => ?_⟩
  obtain ⟨g, rfl, hg⟩ := rowE_some h hne
  exact ⟨g, 0, rfl, hg, fun i x hx => by rw [Nat.zero_add]; exact rowI_cell h hx⟩
theorem rdS_ext {w w' : World} {v : Value} {L : List ByteArray} (h : RdS w v L) (hE : Ext w w') : RdS w' v L := by
  obtain ⟨A, c, h1, h2, h3⟩ := h
  refine ⟨A, c, h1, h2, fun hne => ?_⟩
  obtain ⟨b, off, h4, h5, h6⟩ := h3 hne
  exact ⟨b, off, h4, ext_lt hE h5, fun i x hx => (ext_cell hE _ _ h5).trans (h6 i x hx)⟩
theorem rdI_ext {w w' : World} {v : Value} {L : List Int} (h : RdI w v L) (hE : Ext w w') : RdI w' v L := by
  obtain ⟨A, c, h1, h2, h3⟩ := h
  refine ⟨A, c, h1, h2, fun hne => ?_⟩
  obtain ⟨b, off, h4, h5, h6⟩ := h3 hne
  exact ⟨b, off, h4, ext_lt hE h5, fun i x hx => (ext_cell hE _ _ h5).trans (h6 i x hx)⟩
theorem rdW_ext {w w' : World} {v : Value} {R : List (List Int)} (h : RdW w v R) (hE : Ext w w') : RdW w' v R := by
  obtain ⟨A, c, h1, h2, h3⟩ := h
  refine ⟨A, c, h1, h2, fun hne => ?_⟩
  obtain ⟨b, off, h4, h5, h6⟩ := h3 hne
  refine ⟨b, off, h4, ext_lt hE h5, fun i x hx => ?_⟩
  obtain ⟨u, h7, h8⟩ := h6 i x hx
  exact ⟨u, (ext_cell hE _ _ h5).trans h7, rdI_ext h8 hE⟩
theorem rdS_form {w : World} {v : Value} {L : List ByteArray} (h : RdS w v L) : ∃ A c, v = .slice A L.length c := by
  obtain ⟨A, c, h1, _⟩ := h
  exact ⟨A, c, h1⟩
theorem rdI_form {w : World} {v : Value} {L : List Int} (h : RdI w v L) : ∃ A c, v = .slice A L.length c := by
  obtain ⟨A, c, h1, _⟩ := h
  exact ⟨A, c, h1⟩
theorem rdW_form {w : World} {v : Value} {R : List (List Int)} (h : RdW w v R) : ∃ A c, v = .slice A R.length c := by
  obtain ⟨A, c, h1, _⟩ := h
  exact ⟨A, c, h1⟩
theorem rdS_at {w : World} {A : Option Addr} {n c : Nat} {L : List ByteArray} (h : RdS w (.slice A n c) L) {i : Nat} {x : ByteArray} (hx : L[i]? = some x) : ∃ b off, A = some ⟨b, off, none⟩ ∧ b < w.heap.size ∧ w.cell? ⟨b, off + i, none⟩ = some (.string x) := by
  obtain ⟨A', c', h1, _, h3⟩ := h
  simp only [Value.slice.injEq] at h1
  obtain ⟨rfl, -, -⟩ := h1
  obtain ⟨b, off, h4, h5, h6⟩ := h3 (fun e => by rw [e] at hx; simp at hx)
  exact ⟨b, off, h4, h5, h6 i x hx⟩
theorem rdI_at {w : World} {A : Option Addr} {n c : Nat} {L : List Int} (h : RdI w (.slice A n c) L) {i : Nat} {x : Int} (hx : L[i]? = some x) : ∃ b off, A = some ⟨b, off, none⟩ ∧ b < w.heap.size ∧ w.cell? ⟨b, off + i, none⟩ = some (.int .i64 x) := by
  obtain ⟨A', c', h1, _, h3⟩ := h
  simp only [Value.slice.injEq] at h1
  obtain ⟨rfl, -, -⟩ := h1
  obtain ⟨b, off, h4, h5, h6⟩ := h3 (fun e => by rw [e] at hx; simp at hx)
  exact ⟨b, off, h4, h5, h6 i x hx⟩
theorem rdW_at {w : World} {A : Option Addr} {n c : Nat} {R : List (List Int)} (h : RdW w (.slice A n c) R) {i : Nat} {x : List Int} (hx : R[i]? = some x) : ∃ b off B d, A = some ⟨b, off, none⟩ ∧ b < w.heap.size ∧ w.cell? ⟨b, off + i, none⟩ = some (.slice B x.length d) ∧ RdI w (.slice B x.length d) x := by
  obtain ⟨A', c', h1, _, h3⟩ := h
  simp only [Value.slice.injEq] at h1
  obtain ⟨rfl, -, -⟩ := h1
  obtain ⟨b, off, h4, h5, h6⟩ := h3 (fun e => by rw [e] at hx; simp at hx)
  obtain ⟨u, h7, h8⟩ := h6 i x hx
  obtain ⟨B, d, rfl⟩ := rdI_form h8
  exact ⟨b, off, B, d, h4, h5, h7, h8⟩
theorem flatS1 (L : List ByteArray) : ∀ j : Nat, (flatE elS L)[j]? = L[j]?.map Value.string := by
  induction L with
  | nil => simp [flatE]
  | cons x L ih =>
    intro j
    rw [flatE_cons]
    cases j with
    | zero => rfl
    | succ j => simpa [elS] using ih j
theorem flatI1 (L : List Int) : ∀ j : Nat, (flatE elI L)[j]? = L[j]?.map (Value.int .i64) := by
  induction L with
  | nil => simp [flatE]
  | cons x L ih =>
    intro j
    rw [flatE_cons]
    cases j with
    | zero => rfl
    | succ j => simpa [elI] using ih j
theorem rdS_src {w : World} {v : Value} {L : List ByteArray} (h : RdS w v L) : SrcOf elS w v L := by
  obtain ⟨A, c, h1, _, h3⟩ := h
  refine ⟨A, c, h1, fun hne => ?_⟩
  obtain ⟨b, off, h4, h5, h6⟩ := h3 hne
  refine ⟨_, h4, fun j u hu => ?_⟩
  rw [flatS1] at hu
  obtain ⟨x, hx, rfl⟩ := Option.map_eq_some_iff.1 hu
  rw [addr_add0]
  exact h6 j x hx
theorem rdI_src {w : World} {v : Value} {L : List Int} (h : RdI w v L) : SrcOf elI w v L := by
  obtain ⟨A, c, h1, _, h3⟩ := h
  refine ⟨A, c, h1, fun hne => ?_⟩
  obtain ⟨b, off, h4, h5, h6⟩ := h3 hne
  refine ⟨_, h4, fun j u hu => ?_⟩
  rw [flatI1] at hu
  obtain ⟨x, hx, rfl⟩ := Option.map_eq_some_iff.1 hu
  rw [addr_add0]
  exact h6 j x hx

/-- a table, as it is read -/
def TabV (w : World) (v : Value) (V : List ByteArray) (R : List (List Int)) : Prop := ∃ vv rv, v = .agg #[vv, rv] ∧ RdS w vv V ∧ RdW w rv R
theorem tabV_ext {w w' : World} {v : Value} {V : List ByteArray} {R : List (List Int)} (h : TabV w v V R) (hE : Ext w w') : TabV w' v V R := by
  obtain ⟨vv, rv, h1, h2, h3⟩ := h
  exact ⟨vv, rv, h1, rdS_ext h2 hE, rdW_ext h3 hE⟩
/-- the parts of a table that is one's own, beyond a place -/
def Own (H : Nat) (w : World) (vv rv : Value) (V : List ByteArray) (R : List (List Int)) : Prop :=
  rowF elS H V vv w ∧ ∃ sl : List Sl, rowF elW H sl rv w ∧ sl.length = R.length ∧ ∀ (i : Nat) (s : Sl) (x : List Int), sl[i]? = some s → R[i]? = some x → rowF elI H x (slV s) w
theorem own_ext {H : Nat} {w w' : World} {vv rv : Value} {V : List ByteArray} {R : List (List Int)} (h : Own H w vv rv V R) (hE : Ext w w') : Own H w' vv rv V R := by
  obtain ⟨h1, sl, h2, h3, h4⟩ := h
  exact ⟨rowF_ext _ _ _ hE h1, sl, rowF_ext _ _ _ hE h2, h3, fun i s x hs hx => rowF_ext _ _ _ hE (h4 i s x hs hx)⟩
theorem own_low {H H' : Nat} {w : World} {vv rv : Value} {V : List ByteArray} {R : List (List Int)} (h : Own H w vv rv V R) (hh : H' ≤ H) : Own H' w vv rv V R := by
  obtain ⟨h1, sl, h2, h3, h4⟩ := h
  exact ⟨rowF_low h1 hh, sl, rowF_low h2 hh, h3, fun i s x hs hx => rowF_low (h4 i s x hs hx) hh⟩
theorem own_rdW {H : Nat} {w : World} {vv rv : Value} {V : List ByteArray} {R : List (List Int)} (h : Own H w vv rv V R) : RdW w rv R := by
  obtain ⟨_, sl, h2, h3, h4⟩ := h
  obtain ⟨A, c, rfl⟩ := rowE_form h2.1
  refine ⟨A, c, by rw [h3], by rw [← h3]; exact (rowE_cap h2.1).2, fun hne => ?_⟩
  have hsl : sl ≠ [] := fun e => hne (List.eq_nil_of_length_eq_zero (by rw [← h3, e]; rfl))
  obtain ⟨g, rfl, hg⟩ := rowE_some h2.1 hsl
  refine ⟨g, 0, rfl, hg, fun i x hx => ?_⟩
  have hi : i < sl.length := by rw [h3]; exact (List.getElem?_eq_some_iff.1 hx).1
  have hs : sl[i]? = some sl[i] := List.getElem?_eq_getElem hi
  exact ⟨slV sl[i], by rw [Nat.zero_add]; exact rowW_cell h2.1 hs, rdI_row (h4 i _ x hs hx).1⟩
theorem own_tab {H : Nat} {w : World} {vv rv : Value} {V : List ByteArray} {R : List (List Int)} (h : Own H w vv rv V R) : TabV w (.agg #[vv, rv]) V R := ⟨vv, rv, rfl, rdS_row h.1.1, own_rdW h⟩
end Go.Proofs.YtniggdaakiofeaaDoor
