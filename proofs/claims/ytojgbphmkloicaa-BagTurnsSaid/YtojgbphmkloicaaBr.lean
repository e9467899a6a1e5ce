/- Rows of buckets: slices.Insert, slices.Delete. -/
import Derived.Test.YtojgbphmkloicaaProg
import Derived.WalkKit
import Derived.WalkSpells
import Derived.WalkLawsBesides
import Derived.Lib.Hide
import Derived.Lib.Overlaps
import Derived.Deep.AppendLies
import Derived.Test.YtojgbphmkloicaaGz
import Derived.Test.YtojgbphmkloicaaBq
namespace Go.Proofs.Ytojgbphmkloicaa
open Go Go.RowKit Go.Sort
set_option maxHeartbeats 800000

abbrev ptr (p : Nat) : Value := .pointer (some ⟨p, 0, none⟩)
def elBk : El Nat := ⟨fun p => [ptr p], 1, 51, by decide, fun _ => rfl, fun x u hu => by rw [List.mem_singleton.1 hu]; rfl⟩
theorem flatBk (L : List Nat) : flatE elBk L = L.map ptr := by
  induction L with
  | nil => rfl
  | cons x L ih => rw [flatE_cons, ih]; rfl
theorem infoBk : (Try.prog.info? 51).map (fun i => (i.zero, i.size, i.bytes)) = some (some (.pointer none), 1, 8) := by kernel_rfl
theorem flat_len (L : List Nat) : (L.map ptr).length = L.length := List.length_map ..
theorem flat_one (L : List Nat) : ∀ u ∈ L.map ptr, u.oneCell' = true := fun u hu => by
  obtain ⟨p, _, rfl⟩ := List.mem_map.1 hu
  rfl
def insAt (L : List Nat) (pos : Nat) (p : Nat) : List Nat := L.take pos ++ p :: L.drop pos
theorem insAt_len {L : List Nat} {pos p : Nat} (h : pos ≤ L.length) : (insAt L pos p).length = L.length + 1 := by simp [insAt]; omega
theorem insAt_end (L : List Nat) (p : Nat) : insAt L L.length p = L ++ [p] := by simp [insAt]
def cutAt (L : List Nat) (i j : Nat) : List Nat := L.take i ++ L.drop j
theorem cutAt_len {L : List Nat} {i j : Nat} (h : i ≤ j) (hj : j ≤ L.length) : (cutAt L i j).length = L.length - (j - i) := by simp [cutAt]; omega
def InsPost (v : Value) (L : List Nat) (pos p : Nat) (w : World) (e : Ending) (w' : World) : Prop :=
  ∃ v', e = .returned v' ∧ rowE elBk w' v' (insAt L pos p) ∧ Upd (fun b => v.ownBlock = some b) w w' ∧ (v'.ownBlock = v.ownBlock ∨ ∃ g, v'.ownBlock = some g ∧ w.heap.size ≤ g)
theorem row_mk {w : World} {g n cap : Nat} {cur : Array Value} {L : List Nat} (hg : w.heap[g]? = some (.cells cur 51 (0, 0))) (hn : n = L.length) (h1 : n ≤ cap) (h2 : cap ≤ maxLen) (h3 : cur.size = cap) (h4 : cur.toList.take L.length = L.map ptr) : rowE elBk w (.slice (some ⟨g, 0, none⟩) n cap) L := by
  subst hn
  refine ⟨flatE_length elBk L, .inr ⟨g, cap, cur, rfl, Nat.zero_le _, hg, h1, h2, by rw [h3]; exact (Nat.mul_one _).symm, ?_⟩⟩
  rw [flatBk]
  show cur.toList.take (L.length * 1) = _
  rw [Nat.mul_one, h4]
theorem row_is {w : World} {v : Value} {L : List Nat} (h : rowE elBk w v L) : (v = .slice none 0 0 ∧ L = []) ∨ ∃ g cap cur, v = .slice (some ⟨g, 0, none⟩) L.length cap ∧ w.heap[g]? = some (.cells cur 51 (0, 0)) ∧ L.length ≤ cap ∧ cap ≤ maxLen ∧ cur.size = cap ∧ cur.toList.take L.length = L.map ptr := by
  rcases rowE_cases h with h | ⟨g, cap, cur, h1, h2, h3, h4, h5, h6⟩
  · exact .inl h
  · refine .inr ⟨g, cap, cur, h1, h2, h3, h4, by rw [h5]; exact Nat.mul_one _, ?_⟩
    rw [flatBk] at h6
    have h7 : cur.toList.take (L.length * 1) = L.map ptr := h6
    rwa [Nat.mul_one] at h7
theorem take_app {α : Type} (A B : List α) (n : Nat) (h : A.length = n) : (A ++ B).take n = A := by subst h; simp
theorem ins_cells (C : List Value) (L : List Nat) (p pos : Nat) (hpos : pos ≤ L.length) (ht : C.take pos = (L.take pos).map ptr) :
    (splice (splice C pos [ptr p]) (pos + 1) ((L.drop pos).map ptr)).take (L.length + 1) = (insAt L pos p).map ptr := by
  have hA : ((L.take pos).map ptr).length = pos := by rw [flat_len, List.length_take]; omega
  have hF : ((L.drop pos).map ptr).length = L.length - pos := by rw [flat_len, List.length_drop]
  have e1 : (splice C pos [ptr p]).take (pos + 1) = (L.take pos).map ptr ++ [ptr p] := by
    unfold splice
    rw [ht, ← List.append_assoc]
    exact take_app _ _ _ (by rw [List.length_append, hA]; rfl)
  rw [show splice (splice C pos [ptr p]) (pos + 1) ((L.drop pos).map ptr) = (splice C pos [ptr p]).take (pos + 1) ++ ((L.drop pos).map ptr ++ (splice C pos [ptr p]).drop (pos + 1 + ((L.drop pos).map ptr).length)) from rfl, e1, ← List.append_assoc]
  rw [take_app _ _ _ (by rw [List.length_append, List.length_append, hA, hF]; simp; omega)]
  simp [insAt]
theorem ins_cells' (C : List Value) (L : List Nat) (p pos : Nat) (hpos : pos ≤ L.length) (hC : L.length + 1 ≤ C.length) (ht : C.take pos = (L.take pos).map ptr) :
    (splice (splice C (pos + 1) ((L.drop pos).map ptr)) pos [ptr p]).take (L.length + 1) = (insAt L pos p).map ptr := by
  have hA : ((L.take pos).map ptr).length = pos := by rw [flat_len, List.length_take]; omega
  have hF : ((L.drop pos).map ptr).length = L.length - pos := by rw [flat_len, List.length_drop]
  have hT : (C.take (pos + 1)).length = pos + 1 := by rw [List.length_take]; omega
  have e1 : (splice C (pos + 1) ((L.drop pos).map ptr)).take pos = (L.take pos).map ptr := by
    unfold splice
    rw [List.take_append_of_le_length (by omega), List.take_take, Nat.min_eq_left (by omega), ht]
  have e2 : (splice C (pos + 1) ((L.drop pos).map ptr)).drop (pos + 1) = (L.drop pos).map ptr ++ C.drop (pos + 1 + ((L.drop pos).map ptr).length) := by
    unfold splice
    rw [List.drop_append_of_le_length (by omega), List.drop_eq_nil_of_le (by omega), List.nil_append]
  rw [show splice (splice C (pos + 1) ((L.drop pos).map ptr)) pos [ptr p] = (splice C (pos + 1) ((L.drop pos).map ptr)).take pos ++ ([ptr p] ++ (splice C (pos + 1) ((L.drop pos).map ptr)).drop (pos + 1)) from rfl, e1, e2]
  rw [← List.append_assoc, ← List.append_assoc]
  rw [take_app _ _ _ (by rw [List.length_append, List.length_append, hA, hF]; simp; omega)]
  simp [insAt]
theorem cut_cells (C Z : List Value) (L : List Nat) (i j q : Nat) (hij : i ≤ j) (hj : j ≤ L.length) (hq : q = L.length - (j - i)) (ht : C.take i = (L.take i).map ptr) :
    (splice (splice C i ((L.drop j).map ptr)) q Z).take q = (cutAt L i j).map ptr := by
  have hA : ((L.take i).map ptr).length = i := by rw [flat_len, List.length_take]; omega
  have hF : ((L.drop j).map ptr).length = L.length - j := by rw [flat_len, List.length_drop]
  have e1 : (splice C i ((L.drop j).map ptr)).take q = (L.take i).map ptr ++ (L.drop j).map ptr := by
    unfold splice
    rw [ht, ← List.append_assoc]
    exact take_app _ _ _ (by rw [List.length_append, hA, hF]; omega)
  rw [show splice (splice C i ((L.drop j).map ptr)) q Z = (splice C i ((L.drop j).map ptr)).take q ++ (Z ++ (splice C i ((L.drop j).map ptr)).drop (q + Z.length)) from rfl, e1]
  rw [take_app _ _ _ (by rw [List.length_append, hA, hF]; omega)]
  simp [cutAt]
end Go.Proofs.Ytojgbphmkloicaa
