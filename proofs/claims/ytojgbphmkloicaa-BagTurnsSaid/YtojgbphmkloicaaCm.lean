/- Two bags side by side. -/
import Derived.Test.YtojgbphmkloicaaCg
import Derived.Test.YtojgbphmkloicaaCk
import Derived.Test.YtojgbphmkloicaaCl
import Derived.Test.YtojgbphmkloicaaGl
namespace Go.Proofs.Ytojgbphmkloicaa
open Go Go.RowKit Go.Sort
set_option maxHeartbeats 4000000

def Apart2 (Fa Fb : Nat → Prop) (H n : Nat) : Prop := (∀ b, Fa b → ¬ Fb b) ∧ (∀ b, Fa b → H ≤ b ∧ b < n) ∧ ∀ b, Fb b → H ≤ b ∧ b < n
theorem apart_swap {Fa Fb : Nat → Prop} {H n : Nat} (h : Apart2 Fa Fb H n) : Apart2 Fb Fa H n := ⟨fun b hb ha => h.1 b ha hb, h.2.2, h.2.1⟩
/-- two bags, in blocks from H on, below N -/
def Bags (w : World) (pa pb : Nat) (EA EB : List Ev) (H N : Nat) : Prop := ∃ Fa Fb, BagM w pa 100 EA Fa ∧ BagM w pb 100 EB Fb ∧ Apart2 Fa Fb H N
theorem bags_ext {w w' : World} {pa pb H N : Nat} {EA EB : List Ev} (h : Bags w pa pb EA EB H N) (hE : Ext w w') : Bags w' pa pb EA EB H N := by
  obtain ⟨Fa, Fb, h1, h2, h3⟩ := h
  exact ⟨Fa, Fb, bagM_ext h1 hE, bagM_ext h2 hE, h3⟩
theorem bags_swap {w : World} {pa pb H N : Nat} {EA EB : List Ev} (h : Bags w pa pb EA EB H N) : Bags w pb pa EB EA H N := by
  obtain ⟨Fa, Fb, h1, h2, h3⟩ := h
  exact ⟨Fb, Fa, h2, h1, apart_swap h3⟩
theorem bags_fst {w : World} {pa pb H N : Nat} {EA EB : List Ev} (h : Bags w pa pb EA EB H N) : ∃ Fa, BagM w pa 100 EA Fa := by
  obtain ⟨Fa, Fb, h1, _⟩ := h
  exact ⟨Fa, h1⟩
theorem bags_snd {w : World} {pa pb H N : Nat} {EA EB : List Ev} (h : Bags w pa pb EA EB H N) : ∃ Fb, BagM w pb 100 EB Fb := by
  obtain ⟨Fa, Fb, _, h1, _⟩ := h
  exact ⟨Fb, h1⟩
theorem bagM_pb {w : World} {pb : Nat} {room : Int} {E : List Ev} {F : Nat → Prop} (h : BagM w pb room E F) : F pb ∧ pb < w.heap.size := by
  obtain ⟨bs, ps, v, h6, _⟩ := h
  exact ⟨h6.own.1, block_lt h6.blk⟩
theorem bags_upd {w w' : World} {pa pb H N : Nat} {EA EB : List Ev} {fp : Nat → Prop} (h : Bags w pa pb EA EB H N) (hU : Upd fp w w') (hf : ∀ b, H ≤ b → b < N → ¬ fp b) : Bags w' pa pb EA EB H N := by
  obtain ⟨Fa, Fb, h1, h2, h3⟩ := h
  exact ⟨Fa, Fb, bagM_upd h1 hU (fun b hb => hf b (h3.2.1 b hb).1 (h3.2.1 b hb).2), bagM_upd h2 hU (fun b hb => hf b (h3.2.2 b hb).1 (h3.2.2 b hb).2), h3⟩
theorem add_two (pa pb : Nat) (EA EB : List Ev) (H N : Nat) (t : Int) (k : Key) (w : World) (h : Bags w pa pb EA EB H N) (hN : N ≤ w.heap.size) (hm : EA.length < 100) (hk : ok3 k) (ht : okI t) :
    Calls Try.prog 8 #[ptr pa, .int .i64 t, k3 k] w fun e w' => ∃ c, e = .returned (.int .i64 c) ∧ Bags w' pa pb (addE EA (t, k)) EB H w'.heap.size ∧ Upd (fun b => H ≤ b ∧ b < N) w w' := by
  obtain ⟨Fa, Fb, h1, h2, h3⟩ := h
  refine (add_any pa 100 EA Fa t k w h1 (by omega) (by omega) hk ht).mono ?_
  rintro e w' ⟨c, rfl, hB, hU⟩
  have hp := h3.2.1 pa (bagM_pb h1).1
  have hsz := hU.size
  refine ⟨c, rfl, ⟨fun b => Fa b ∨ (w.heap.size ≤ b ∧ b < w'.heap.size), Fb, bagM_own hB (fun b hb hf => ?_), bagM_upd h2 hU (fun b hb hf => h3.1 b hf hb), fun b hb hf => ?_, fun b hb => ?_, fun b hb => ?_⟩, upd_mono hU (fun b _ hb => h3.2.1 b hb)⟩
  · rcases hf with hf | hf
    · exact .inl hf
    · exact .inr ⟨hf, hb⟩
  · rcases hb with hb | hb
    · exact h3.1 b hb hf
    · have := (h3.2.2 b hf).2; omega
  · rcases hb with hb | hb
    · have := h3.2.1 b hb; omega
    · omega
  · have := h3.2.2 b hb; omega
theorem rem_two (pa pb : Nat) (EA EB : List Ev) (H N : Nat) (t : Int) (k : Key) (w : World) (h : Bags w pa pb EA EB H N) (hm : EA.length ≤ 100000) (hk : ok3 k) :
    Calls Try.prog 13 #[ptr pa, .int .i64 t, k3 k] w fun e w' => ∃ c, e = .returned (.int .i64 c) ∧ Bags w' pa pb (EA.erase (t, k)) EB H N ∧ Upd (fun b => H ≤ b ∧ b < N) w w' := by
  obtain ⟨Fa, Fb, h1, h2, h3⟩ := h
  refine (remove_any pa 100 EA Fa t k w h1 hm hk).mono ?_
  rintro e w' ⟨c, rfl, hB, hU⟩
  exact ⟨c, rfl, ⟨Fa, Fb, hB, bagM_upd h2 hU (fun b hb hf => h3.1 b hf hb), h3⟩, upd_mono hU (fun b _ hb => h3.2.1 b hb)⟩
theorem new_two (w : World) : Calls Try.prog 7 #[.int .i64 100] w fun e w' => ∃ pb, e = .returned (.tuple #[ptr pb, .int .i64 0]) ∧ pb = w.heap.size ∧ (∃ F, BagM w' pb 100 [] F ∧ ∀ b, F b → b = w.heap.size) ∧ Ext w w' ∧ w'.heap.size = w.heap.size + 1 := by
  refine (new_any 100 (by omega) (by omega) w).mono ?_
  rintro e w' ⟨pb, rfl, hpb, hB, hE, hs⟩
  exact ⟨pb, rfl, hpb, ⟨_, hB, fun b hb => by rw [← hpb]; exact hb⟩, hE, hs⟩
/-- those of a bag of acts that are late -/
def evB (t : Int) (L : List AC) (j : Nat) : List Ev := (lateE t ((evs L).take j)).filter okE
theorem evB_len (t : Int) (L : List AC) (j : Nat) : (evB t L j).length ≤ j := by
  unfold evB
  refine Nat.le_trans (List.length_filter_le ..) (Nat.le_trans (late_len ..) ?_)
  rw [List.length_take]
  omega
theorem evB_yes {t : Int} {L : List AC} {j : Nat} {x : AC} (h : L[j]? = some x) (ht : t ≤ x.time) : addE (evB t L j) (x.time, x.key) = evB t L (j + 1) := by
  unfold evB
  rw [add_filter, late_yes (e := (x.time, x.key)) (by unfold evs; rw [List.getElem?_map, h]; rfl) ht]
theorem evB_no {t : Int} {L : List AC} {j : Nat} {x : AC} (h : L[j]? = some x) (ht : ¬ t ≤ x.time) : evB t L (j + 1) = evB t L j := by
  unfold evB
  rw [late_no (e := (x.time, x.key)) (by unfold evs; rw [List.getElem?_map, h]; rfl) ht]
theorem evB_late (t : Int) (L : List AC) (j : Nat) : lateE t (evL L j) = evB t L j := late_ok t _
end Go.Proofs.Ytojgbphmkloicaa
