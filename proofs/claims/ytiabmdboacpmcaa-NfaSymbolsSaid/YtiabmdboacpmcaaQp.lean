/- What the laws of paths lean on. -/
import Derived.Test.YtiabmdboacpmcaaQm
import Derived.Test.YtiabmdboacpmcaaQc
import Derived.Test.YtiabmdboacpmcaaQf
import Derived.Test.YtiabmdboacpmcaaQh
import Derived.Test.YtiabmdboacpmcaaQa
namespace Go.Proofs.Ytiabmdboacpmcaa
open Go Go.RowKit Go.Sort
set_option maxHeartbeats 1000000

def TFPost (m : Nat) (w : World) (e : Ending) (w' : World) : Prop := ∃ (rb n : Nat) (t : Tr) (k z : Int) (A : Option Addr) (q c : Nat), e = .returned (.tuple #[.slice (some ⟨rb, 0, none⟩) n n, .agg #[.int .i64 k, .int .i64 z, .slice A q c]]) ∧ n ≤ 100 ∧ Fit m t ∧ Lst w' rb n t 0 ∧ PV w' t (.agg #[.int .i64 k, .int .i64 z, .slice A q c]) ∧ Ext w w'
theorem tree_fix (m : Nat) (hm : 1 ≤ m) (hm8 : m ≤ 8) (v : Value) (L : List Nd) (w : World) (hv : RdNd w v L) (hF : Fixed L) (hl : L.length ≤ m) : Calls Try.prog 20 #[v] w (TFPost m w) := by
  refine (tree_any v L w hv (by omega)).mono ?_
  rintro e w2 ⟨rb, n, lo, H, t, a, b, s, rfl, hn, ht, hT, hX, hrl, hlH, hHz, hE2⟩
  have hnl := nodesOf_length L
  have hft := fixed_trs (nodesOf L) (by omega) (fixed_nodes hF) t (List.mem_of_getElem? ht)
  have hV := TX_PV hX
  obtain ⟨k, z, A, q, c, rfl, rfl, rfl⟩ := TX_form hX
  exact ⟨rb, n, t, k, z, A, q, c, rfl, by omega, fit_mono hft (by omega), ⟨lo, H, hHz, hT⟩, hV, hE2⟩
theorem mtakes_any (W w : World) (p : Nat) (t : Tr) (v : Value) (u : List Sy) (h : MachT W w p t) (hv : RdY w v u) (hl : u.length ≤ 1000000) : Calls Try.prog 24 #[.pointer (some ⟨p, 0, none⟩), v] w fun e w' => e = .returned (.bool (tk t u)) ∧ Ext w w' := by
  refine (takes_any W w p _ _ _ _ v u (machT_mach h) hv hl).mono ?_
  rintro e w' ⟨b, rfl, hb, hE⟩
  have : b = tk t u := by
    rw [Bool.eq_iff_iff, hb, tk_iff]
    exact machT_words h u
  rw [this]
  exact ⟨rfl, hE⟩
theorem rdY_rowZ {w : World} {v : Value} {L : List Sy} (h : rowE elZ w v L) : RdY w v L := by
  obtain ⟨A, c, rfl⟩ := rowE_form h
  refine ⟨A, c, rfl, (rowE_cap h).2, fun hne => ?_⟩
  obtain ⟨g, rfl, hg⟩ := rowE_some h hne
  refine ⟨g, 0, rfl, hg, fun i x hx => ⟨?_, ?_⟩⟩
  · have := rowE_cell h hx (j := 0) (u := .int .i64 x.1) rfl
    simpa [elZ] using this
  · have := rowE_cell h hx (j := 1) (u := .bool x.2) rfl
    simpa [elZ] using this
theorem empty_tk (t : Tr) (hF : Form t) : emptyT t = tk t [] := by rw [Bool.eq_iff_iff, tk_iff, empty_words t hF]
theorem bne_self (b : Bool) : (b != b) = false := by cases b <;> rfl
theorem beq_self (b : Bool) : (b == b) = true := by cases b <;> rfl
end Go.Proofs.Ytiabmdboacpmcaa
