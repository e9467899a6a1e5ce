/- Plain: the document's rows, as lists of pairs. -/
import Derived.Test.YtniggdaakiofeaaDoorSa
namespace Go.Proofs.YtniggdaakiofeaaDoor
open Go

abbrev VarN := ByteArray × Int
def getR : List VarN → ByteArray → Int
  | [], _ => -1
  | p :: r, v => if p.1 = v then p.2 else getR r v
def keysR (r : List VarN) : List ByteArray := r.map (·.1)
/-- a row that rises, of numbers from 0 on -/
def RiseR (r : List VarN) : Prop := RiseS (keysR r) ∧ ∀ p ∈ r, (0 : Int) ≤ p.2
theorem riseR_nil : RiseR [] := ⟨.nil, fun _ h => (by cases h)⟩
theorem riseR_tail {p : VarN} {r : List VarN} (h : RiseR (p :: r)) : RiseR r := ⟨(List.pairwise_cons.1 h.1).2, fun q hq => h.2 q (List.mem_cons_of_mem _ hq)⟩
theorem riseR_head {p : VarN} {r : List VarN} (h : RiseR (p :: r)) : ∀ u ∈ keysR r, ltS p.1 u = true := (List.pairwise_cons.1 h.1).1
theorem getR_out : ∀ {r : List VarN} {v : ByteArray}, v ∉ keysR r → getR r v = -1
  | [], _, _ => rfl
  | p :: r, v, h => by
    rw [getR, if_neg (fun e => h (List.mem_cons.2 (.inl e.symm))), getR_out (fun hh => h (List.mem_cons_of_mem _ hh))]
theorem getR_mem : ∀ {r : List VarN}, RiseR r → ∀ {p : VarN}, p ∈ r → getR r p.1 = p.2
  | q :: r, h, p, hp => by
    rw [getR]
    rcases List.mem_cons.1 hp with rfl | hp
    · rw [if_pos rfl]
    · rw [if_neg (fun (e : q.1 = p.1) => ltS_irrefl p.1 (by have := riseR_head h p.1 (List.mem_map.2 ⟨p, hp, rfl⟩); rw [e] at this; exact this)), getR_mem (riseR_tail h) hp]
theorem getR_lo : ∀ {r : List VarN}, RiseR r → ∀ (v : ByteArray), -1 ≤ getR r v
  | [], _, v => by simp [getR]
  | p :: r, h, v => by
    rw [getR]
    split
    · have := h.2 p (List.mem_cons_self ..); omega
    · exact getR_lo (riseR_tail h) v
theorem getR_in : ∀ {r : List VarN}, RiseR r → ∀ {v : ByteArray}, (0 ≤ getR r v ↔ v ∈ keysR r)
  | [], _, v => by simp [getR, keysR]
  | p :: r, h, v => by
    rw [getR]
    split
    · rename_i e
      exact ⟨fun _ => List.mem_cons.2 (.inl e.symm), fun _ => h.2 p (List.mem_cons_self ..)⟩
    · rename_i e
      rw [getR_in (riseR_tail h)]
      exact ⟨List.mem_cons_of_mem _, fun h1 => (List.mem_cons.1 h1).resolve_left (fun e' => e e'.symm)⟩
/-- a pair goes in -/
def putI : List VarN → ByteArray → Int → List VarN
  | [], v, n => [(v, n)]
  | p :: r, v, n => if ltS p.1 v then p :: putI r v n else (v, n) :: p :: r
def putAt : List VarN → ByteArray → Nat
  | [], _ => 0
  | p :: r, v => if ltS p.1 v then putAt r v + 1 else 0
theorem putAt_le : ∀ (r : List VarN) (v : ByteArray), putAt r v ≤ r.length
  | [], _ => Nat.le_refl _
  | p :: r, v => by
    have := putAt_le r v
    rw [putAt, List.length_cons]; split <;> omega
theorem putI_cut : ∀ (r : List VarN) (v : ByteArray) (n : Int), putI r v n = r.take (putAt r v) ++ (v, n) :: r.drop (putAt r v)
  | [], _, _ => rfl
  | p :: r, v, n => by
    rw [putI, putAt]
    split
    · rw [putI_cut r v n]; rfl
    · rfl
theorem putAt_hit : ∀ {r : List VarN} {v : ByteArray} {i : Nat}, i ≤ r.length → (∀ (j : Nat) p, j < i → r[j]? = some p → ltS p.1 v = true) → (∀ p, r[i]? = some p → ltS p.1 v = false) → putAt r v = i
  | [], v, i, hi, _, _ => by simp at hi; rw [hi]; rfl
  | p :: r, v, 0, _, _, h => by rw [putAt, h p rfl]; rfl
  | p :: r, v, i + 1, hi, h, hn => by
    rw [putAt, if_pos (h 0 p (by omega) rfl), putAt_hit (r := r) (i := i) (by simpa using hi) (fun j q hj hq => h (j + 1) q (by omega) (by simpa using hq)) (fun q hq => hn q (by simpa using hq))]
theorem mem_putI {q : VarN} : ∀ {r : List VarN} {v : ByteArray} {n : Int}, q ∈ putI r v n ↔ q ∈ r ∨ q = (v, n)
  | [], v, n => by simp [putI]
  | p :: r, v, n => by
    rw [putI]
    split
    · rw [List.mem_cons, mem_putI, List.mem_cons, or_assoc]
    · rw [List.mem_cons, or_comm]
theorem rise_putI : ∀ {r : List VarN} {v : ByteArray} {n : Int}, RiseR r → v ∉ keysR r → 0 ≤ n → RiseR (putI r v n)
  | [], v, n, _, _, hn => ⟨by simp [putI, keysR, RiseS], fun p hp => by simp [putI] at hp; rw [hp]; exact hn⟩
  | p :: r, v, n, h, hv, hn => by
    have hv' : v ∉ keysR r := fun hh => hv (List.mem_cons_of_mem _ hh)
    have hpv : p.1 ≠ v := fun e => hv (List.mem_cons.2 (.inl e.symm))
    rw [putI]
    split
    · rename_i hl
      obtain ⟨h1, h2⟩ := rise_putI (riseR_tail h) hv' hn
      refine ⟨List.pairwise_cons.2 ⟨fun u hu => ?_, h1⟩, fun q hq => ?_⟩
      · obtain ⟨q, hq, rfl⟩ := List.mem_map.1 hu
        rcases mem_putI.1 hq with h3 | h3
        · exact riseR_head h _ (List.mem_map.2 ⟨q, h3, rfl⟩)
        · rw [h3]; exact hl
      · rcases List.mem_cons.1 hq with rfl | hq
        · exact h.2 _ (List.mem_cons_self ..)
        · exact h2 q hq
    · rename_i hl
      have hvp := ltS_of_not hl hpv
      refine ⟨List.pairwise_cons.2 ⟨fun u hu => ?_, h.1⟩, fun q hq => ?_⟩
      · rcases List.mem_cons.1 hu with rfl | hu
        · exact hvp
        · exact ltS_trans hvp (riseR_head h u hu)
      · rcases List.mem_cons.1 hq with rfl | hq
        · exact hn
        · exact h.2 q hq
theorem getR_putI : ∀ {r : List VarN} {v : ByteArray} {n : Int} {u : ByteArray}, v ∉ keysR r → getR (putI r v n) u = if v = u then n else getR r u
  | [], v, n, u, _ => rfl
  | p :: r, v, n, u, hv => by
    have hv' : v ∉ keysR r := fun hh => hv (List.mem_cons_of_mem _ hh)
    have hpv : p.1 ≠ v := fun e => hv (List.mem_cons.2 (.inl e.symm))
    rw [putI]
    split
    · rw [getR, getR_putI hv', getR]
      by_cases e : p.1 = u
      · rw [if_pos e, if_neg (fun e' => hpv (e.trans e'.symm)), if_pos e]
      · rw [if_neg e, if_neg e]
    · rw [getR]
/-- a var stands for a number -/
def putR (r : List VarN) (v : ByteArray) (n : Int) : List VarN := if n < 0 ∨ 0 ≤ getR r v then r else putI r v n
theorem rise_putR {r : List VarN} {v : ByteArray} {n : Int} (h : RiseR r) : RiseR (putR r v n) := by
  unfold putR
  split
  · exact h
  · rename_i hh
    exact rise_putI h (fun hv => hh (.inr ((getR_in h).2 hv))) (by omega)
theorem getR_putR {r : List VarN} {v : ByteArray} {n : Int} (h : RiseR r) (u : ByteArray) : getR (putR r v n) u = if v = u ∧ getR r v < 0 then max n (-1) else getR r u := by
  have hlo := getR_lo h v
  unfold putR
  by_cases hn : n < 0 ∨ 0 ≤ getR r v
  · rw [if_pos hn]
    split
    · rename_i hh
      obtain ⟨rfl, h2⟩ := hh
      omega
    · rfl
  · rw [if_neg hn, getR_putI (fun hv => hn (.inr ((getR_in h).2 hv)))]
    by_cases e : v = u
    · rw [if_pos e, if_pos ⟨e, by omega⟩]; omega
    · rw [if_neg e, if_neg (fun hh => e hh.1)]
theorem keys_putR {r : List VarN} {v u : ByteArray} {n : Int} (h : u ∈ keysR (putR r v n)) : u ∈ keysR r ∨ u = v := by
  unfold putR at h
  split at h
  · exact .inl h
  · obtain ⟨q, hq, rfl⟩ := List.mem_map.1 h
    rcases mem_putI.1 hq with h1 | h1
    · exact .inl (List.mem_map.2 ⟨q, h1, rfl⟩)
    · exact .inr (by rw [h1])
theorem putR_length (r : List VarN) (v : ByteArray) (n : Int) : (putR r v n).length ≤ r.length + 1 := by
  unfold putR
  split
  · omega
  · have := putAt_le r v
    rw [putI_cut]
    simp
    omega
/-- a row of some vars -/
def okR (V : List ByteArray) (r : List VarN) : Prop := RiseR r ∧ ∀ u ∈ keysR r, u ∈ V
def rowD (V : List ByteArray) (r : List VarN) : List Int := V.map (getR r)
theorem rowD_of {V : List ByteArray} {r : List VarN} (h : RiseR r) {g : ByteArray → Int} (hg : ∀ v ∈ V, max (g v) (-1) = getR r v) : rowOf V g = rowD V r := List.map_congr_left hg
theorem valN_rowD {V : List ByteArray} {r : List VarN} (h : okR V r) (v : ByteArray) : valN V (rowD V r) v = getR r v := by
  unfold valN
  split
  · rename_i hv
    rw [List.getD_eq_getElem?_getD, rowD, List.getElem?_map, idxS_get (idxS_lt.1 hv)]
    rfl
  · rename_i hv
    rw [getR_out (fun hk => hv (idxS_lt.2 (h.2 v hk)))]
/-- two rows, joined -/
def joinD (a b : List VarN) : List VarN := b.foldl (fun out p => putR out p.1 p.2) a
theorem joinD_spec : ∀ (b : List VarN) {a : List VarN}, RiseR a → RiseR b → RiseR (joinD a b) ∧ (∀ u, getR (joinD a b) u = if 0 ≤ getR a u then getR a u else getR b u) ∧ ∀ u ∈ keysR (joinD a b), u ∈ keysR a ∨ u ∈ keysR b
  | [], a, ha, _ => ⟨ha, fun u => by
      have := getR_lo ha u
      simp only [joinD, List.foldl_nil, getR]
      split <;> omega, fun u hu => .inl hu⟩
  | p :: b, a, ha, hb => by
    have h2 := hb.2 p (List.mem_cons_self ..)
    obtain ⟨i1, i2, i3⟩ := joinD_spec b (rise_putR (v := p.1) (n := p.2) ha) (riseR_tail hb)
    refine ⟨i1, fun u => ?_, fun u hu => ?_⟩
    · have := i2 u
      rw [getR_putR ha] at this
      simp only [joinD, List.foldl_cons] at this ⊢
      rw [this, getR]
      by_cases e : p.1 = u
      · subst e
        by_cases hh : getR a p.1 < 0
        · have k : (if p.1 = p.1 ∧ getR a p.1 < 0 then max p.2 (-1) else getR a p.1) = p.2 := by rw [if_pos ⟨rfl, hh⟩]; omega
          rw [k, if_pos h2, if_neg (by omega), if_pos rfl]
        · have k : (if p.1 = p.1 ∧ getR a p.1 < 0 then max p.2 (-1) else getR a p.1) = getR a p.1 := if_neg (fun k => hh k.2)
          rw [k, if_pos (by omega), if_pos (by omega)]
      · have k : (if p.1 = u ∧ getR a p.1 < 0 then max p.2 (-1) else getR a u) = getR a u := if_neg (fun k => e k.1)
        rw [k, if_neg e]
    · rcases i3 u hu with h3 | h3
      · rcases keys_putR h3 with h4 | h4
        · exact .inl h4
        · exact .inr (List.mem_cons.2 (.inl h4))
      · exact .inr (List.mem_cons_of_mem _ h3)
def compD (a b : List VarN) : Bool := a.all fun p => !(decide (0 ≤ getR b p.1) && getR b p.1 != p.2)
theorem compD_iff {a b : List VarN} (ha : RiseR a) : compD a b = true ↔ ∀ u, 0 ≤ getR a u → 0 ≤ getR b u → getR b u = getR a u := by
  unfold compD
  rw [List.all_eq_true]
  constructor
  · intro h u h1 h2
    obtain ⟨p, hp, rfl⟩ := List.mem_map.1 ((getR_in ha).1 h1)
    have := h p hp
    rw [getR_mem ha hp]
    simp [h2] at this
    exact this
  · intro h p hp
    have h1 := getR_mem ha hp
    have h2 := ha.2 p hp
    by_cases h3 : 0 ≤ getR b p.1
    · have := h p.1 (by omega) h3
      simp [this, h1]
    · simp [h3]
theorem compB_iff {U V : List ByteArray} {a b : List VarN} (ha : okR U a) (hb : okR V b) : compB U V (rowD U a) (rowD V b) = true ↔ ∀ u, 0 ≤ getR a u → 0 ≤ getR b u → getR b u = getR a u := by
  unfold compB
  rw [List.all_eq_true]
  have hx : ∀ i, i < U.length → (rowD U a).getD i (-1) = getR a (U.getD i ⟨#[]⟩) := fun i hi => by simp [rowD, List.getD, hi]
  constructor
  · intro h u h1 h2
    obtain ⟨i, hi, rfl⟩ := List.getElem_of_mem (ha.2 u ((getR_in ha.1).1 h1))
    have h3 := h i (List.mem_range.2 hi)
    have e : U.getD i ⟨#[]⟩ = U[i] := by simp [List.getD, hi]
    rw [hx i hi, valN_rowD hb, e] at h3
    simp [h1, h2] at h3
    exact h3
  · intro h i hi
    have hi' := List.mem_range.1 hi
    rw [hx i hi', valN_rowD hb]
    generalize U.getD i ⟨#[]⟩ = v
    by_cases h1 : 0 ≤ getR a v
    · by_cases h2 : 0 ≤ getR b v
      · simp [h _ h1 h2]
      · simp [h2]
    · simp [h1]
theorem comp_same {U V : List ByteArray} {a b : List VarN} (ha : okR U a) (hb : okR V b) : compB U V (rowD U a) (rowD V b) = compD a b := by
  rw [Bool.eq_iff_iff, compB_iff ha hb, compD_iff ha.1]
theorem okR_join {U V : List ByteArray} {a b : List VarN} (ha : okR U a) (hb : okR V b) : okR (setS (U ++ V)) (joinD a b) := by
  obtain ⟨h1, _, h3⟩ := joinD_spec b ha.1 hb.1
  refine ⟨h1, fun u hu => mem_setS.2 (List.mem_append.2 ?_)⟩
  rcases h3 u hu with h | h
  · exact .inl (ha.2 u h)
  · exact .inr (hb.2 u h)
theorem join_same {U V : List ByteArray} {a b : List VarN} (ha : okR U a) (hb : okR V b) (hc : compD a b = true) : joinR U V (rowD U a) (rowD V b) = rowD (setS (U ++ V)) (joinD a b) := by
  obtain ⟨h1, h2, _⟩ := joinD_spec b ha.1 hb.1
  refine rowD_of h1 (fun v _ => ?_)
  rw [h2, valN_rowD ha, valN_rowD hb]
  have la := getR_lo ha.1 v
  have lb := getR_lo hb.1 v
  have := (compD_iff ha.1).1 hc v
  split <;> omega
end Go.Proofs.YtniggdaakiofeaaDoor
