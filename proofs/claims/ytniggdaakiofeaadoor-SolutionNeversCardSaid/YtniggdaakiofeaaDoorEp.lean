/- The program's functions at tables that are the document's. -/
import Derived.Test.YtniggdaakiofeaaDoorEb
import Derived.Test.YtniggdaakiofeaaDoorGz
namespace Go.Proofs.YtniggdaakiofeaaDoor
open Go Go.RowKit Go.Sort
set_option maxHeartbeats 1000000
/- of this seat alone: 80 -/

/-- what is known of a table of the laws: how many vars, how many rows at most, how long a row -/
structure Tb (n m : Nat) (U : List ByteArray) (M : List (List VarN)) : Prop where
  q : IsQ U M
  vars : U.length ≤ n
  rows : M.length ≤ m
  len : ∀ r ∈ M, r.length ≤ n
theorem nodup_len : ∀ (K U : List ByteArray), K.Nodup → (∀ u ∈ K, u ∈ U) → K.length ≤ U.length
  | [], _, _, _ => Nat.zero_le _
  | k :: K, U, hn, hs => by
    obtain ⟨A, B, rfl⟩ := List.append_of_mem (hs k (List.mem_cons_self ..))
    have hn' := List.nodup_cons.1 hn
    have ih := nodup_len K (A ++ B) hn'.2 (fun u hu => by
      have h1 := hs u (List.mem_cons_of_mem _ hu)
      rw [List.mem_append, List.mem_cons] at h1
      rw [List.mem_append]
      rcases h1 with h1 | rfl | h1
      · exact .inl h1
      · exact absurd hu hn'.1
      · exact .inr h1)
    simp only [List.length_append, List.length_cons] at ih ⊢
    omega
theorem okR_len {U : List ByteArray} {r : List VarN} (h : okR U r) : r.length ≤ U.length := by
  have h2 := nodup_len (keysR r) U (rise_nodup h.1.1) (fun u hu => h.2 u hu)
  simpa [keysR] using h2
theorem tb_of {n m : Nat} {U : List ByteArray} {M : List (List VarN)} (q : IsQ U M) (h1 : U.length ≤ n) (h2 : M.length ≤ m) : Tb n m U M := ⟨q, h1, h2, fun r hr => Nat.le_trans (okR_len (q.ok r hr)) h1⟩
theorem tb_isT {xs : List Nat} {rs : List (List Nat)} {U : List ByteArray} {M : List (List VarN)} (h : IsT U M) (hM : M = docT xs rs) : Tb 5 8 U M := tb_of (isQ_of h hM) h.vars h.rows
theorem tb_join {n m n' m' : Nat} {U V : List ByteArray} {M N : List (List VarN)} (a : Tb n m U M) (b : Tb n' m' V N) : Tb (n + n') (m * m') (setS (U ++ V)) (joinQ M N) :=
  tb_of (isQ_join a.q b.q) (by have := setS_length (U ++ V); rw [List.length_append] at this; have := a.vars; have := b.vars; omega) (Nat.le_trans (joinQ_len M N) (Nat.mul_le_mul a.rows b.rows))
theorem tb_both {n m n' m' : Nat} {U V : List ByteArray} {M N : List (List VarN)} (a : Tb n m U M) (b : Tb n' m' V N) : Tb (n + n') (m + m') (setS (U ++ V)) (M ++ N) :=
  tb_of (isQ_both a.q b.q) (by have := setS_length (U ++ V); rw [List.length_append] at this; have := a.vars; have := b.vars; omega) (by rw [List.length_append]; have := a.rows; have := b.rows; omega)
theorem tb_rows {n m : Nat} {U : List ByteArray} {M : List (List VarN)} (a : Tb n m U M) : (∀ x ∈ rowsD U M, x.length = U.length) ∧ (rowsD U M).length ≤ m := ⟨rowsD_mem, by rw [rowsD_len]; exact a.rows⟩
abbrev TabQ (H : Nat) (U : List ByteArray) (M : List (List VarN)) (v : Value) (w : World) : Prop := TabF H U (rowsD U M) v w
theorem tabQ_tab {H : Nat} {U : List ByteArray} {R : List (List Int)} {v : Value} {w : World} (h : TabF H U R v w) : ∃ a b, v = .agg #[a, b] ∧ TabV w (.agg #[a, b]) U R := by
  obtain ⟨a, b, rfl, h⟩ := h
  exact ⟨a, b, rfl, own_tab h⟩
theorem joinT {n m n' m' H H' : Nat} (av bv : Value) {U V : List ByteArray} {M N : List (List VarN)} (w : World) (ha : TabQ H U M av w) (hb : TabQ H' V N bv w) (a : Tb n m U M) (b : Tb n' m' V N) (h1 : n ≤ 100) (h2 : n' ≤ 100) (h3 : m ≤ 1000) (h4 : m' ≤ 1000) (h5 : m * m' ≤ 100000) :
    Calls Tryd.prog 12 #[av, bv] w fun e w' => ∃ v', e = .returned v' ∧ TabQ w.heap.size (setS (U ++ V)) (joinQ M N) v' w' ∧ Ext w w' := by
  obtain ⟨x, y, rfl, ka⟩ := tabQ_tab ha
  obtain ⟨x', y', rfl, kb⟩ := tabQ_tab hb
  have hx := tb_rows a
  have hy := tb_rows b
  have hv := a.vars
  have hv' := b.vars
  refine (join_any x y x' y' U V (rowsD U M) (rowsD V N) w ka kb a.q.rise b.q.rise (by omega) (by omega) hx.1 hy.1 (by omega) (by omega) (by have := Nat.mul_le_mul hx.2 hy.2; omega)).mono ?_
  rintro e w' ⟨vv, rv, rfl, how, hE⟩
  rw [joinN_D a.q.ok b.q.ok] at how
  exact ⟨_, rfl, ⟨vv, rv, rfl, how⟩, hE⟩
theorem unionT {n m n' m' H H' : Nat} (av bv : Value) {U V : List ByteArray} {M N : List (List VarN)} (w : World) (ha : TabQ H U M av w) (hb : TabQ H' V N bv w) (a : Tb n m U M) (b : Tb n' m' V N) (h1 : n ≤ 100) (h2 : n' ≤ 100) (h3 : m ≤ 100000) (h4 : m' ≤ 100000) :
    Calls Tryd.prog 13 #[av, bv] w fun e w' => ∃ v', e = .returned v' ∧ TabQ w.heap.size (setS (U ++ V)) (M ++ N) v' w' ∧ Ext w w' := by
  obtain ⟨x, y, rfl, ka⟩ := tabQ_tab ha
  obtain ⟨x', y', rfl, kb⟩ := tabQ_tab hb
  have hx := tb_rows a
  have hy := tb_rows b
  have hv := a.vars
  have hv' := b.vars
  refine (union_any x y x' y' U V (rowsD U M) (rowsD V N) w ka kb a.q.rise b.q.rise (by omega) (by omega) hx.1 hy.1 (by omega) (by omega)).mono ?_
  rintro e w' ⟨vv, rv, rfl, how, hE⟩
  rw [unionN_D a.q.ok b.q.ok] at how
  exact ⟨_, rfl, ⟨vv, rv, rfl, how⟩, hE⟩
theorem sameT {n m n' m' H H' : Nat} (av bv : Value) {U V : List ByteArray} {M N : List (List VarN)} (w : World) (ha : TabQ H U M av w) (hb : TabQ H' V N bv w) (hT : TabP w) (a : Tb n m U M) (b : Tb n' m' V N) (h1 : n ≤ 100) (h2 : n' ≤ 100) (h3 : m ≤ 100000) (h4 : m' ≤ 100000) :
    Calls Tryd.prog 17 #[av, bv] w fun e w' => e = .returned (.bool (sameB U V (rowsD U M) (rowsD V N))) ∧ Ext w w' := by
  obtain ⟨x, y, rfl, ka⟩ := tabQ_tab ha
  obtain ⟨x', y', rfl, kb⟩ := tabQ_tab hb
  have hx := tb_rows a
  have hy := tb_rows b
  have hv := a.vars
  have hv' := b.vars
  exact same_any x y x' y' U V (rowsD U M) (rowsD V N) w ka kb hT (by omega) (by omega) (by omega) (by omega) (isQ_tiny a.q) (isQ_tiny b.q) (fun y h => by rw [hx.1 y h]; omega) (fun y h => by rw [hy.1 y h]; omega)
end Go.Proofs.YtniggdaakiofeaaDoor
