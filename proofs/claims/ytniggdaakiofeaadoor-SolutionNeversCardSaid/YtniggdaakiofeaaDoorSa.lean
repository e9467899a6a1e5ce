/- Plain: rows of strings that rise; tables. -/
import Derived.Sort.Walk0
import Derived.Lib.SlicesCompact
import Derived.Sort.EncStr
namespace Go.Proofs.YtniggdaakiofeaaDoor
open Go

def toL (s : ByteArray) : List UInt8 := s.data.toList
def ofL (l : List UInt8) : ByteArray := ⟨l.toArray⟩
theorem ofL_toL (s : ByteArray) : ofL (toL s) = s := rfl
theorem toL_ofL (l : List UInt8) : toL (ofL l) = l := rfl
theorem toL_inj {x y : ByteArray} (h : toL x = toL y) : x = y := by
  have := congrArg ofL h
  simpa [ofL_toL] using this
theorem toList_toL (s : ByteArray) : s.toList = toL s := ByteArray.toList_eq s
theorem ba_ext {x y : ByteArray} (h : x.toList = y.toList) : x = y := toL_inj (by rw [← toList_toL, ← toList_toL]; exact h)
def ltS (x y : ByteArray) : Bool := Op.bytesLess x.toList y.toList
theorem ltS_iff {x y : ByteArray} : ltS x y = true ↔ toL x < toL y := by
  unfold ltS
  rw [bytesLess_eq, toList_toL, toList_toL, decide_eq_true_eq]
theorem ltS_irrefl (x : ByteArray) : ¬ ltS x x = true := fun h => List.lt_irrefl _ (ltS_iff.1 h)
theorem ltS_trans {x y z : ByteArray} (h : ltS x y = true) (k : ltS y z = true) : ltS x z = true := ltS_iff.2 (List.lt_trans (ltS_iff.1 h) (ltS_iff.1 k))
theorem ltS_asymm {x y : ByteArray} (h : ltS x y = true) : ¬ ltS y x = true := fun k => ltS_irrefl x (ltS_trans h k)
theorem le_iff {x y : ByteArray} : toL x ≤ toL y ↔ ¬ ltS y x = true := by rw [ltS_iff, List.not_lt]
theorem ltS_total {x y : ByteArray} (h : x ≠ y) : ltS x y = true ∨ ltS y x = true := by
  by_cases h1 : ltS x y = true
  · exact .inl h1
  · refine .inr (Classical.byContradiction fun h2 => h (toL_inj (List.le_antisymm (le_iff.2 h2) (le_iff.2 h1))))
theorem ltS_of_not {x y : ByteArray} (h : ¬ ltS x y = true) (hn : x ≠ y) : ltS y x = true := (ltS_total hn).resolve_left h

def RiseS (V : List ByteArray) : Prop := V.Pairwise (fun x y => ltS x y = true)
theorem rise_nodup {V : List ByteArray} (h : RiseS V) : V.Nodup := List.Pairwise.imp (fun {a b} (h : ltS a b = true) (e : a = b) => ltS_irrefl b (by rw [e] at h; exact h)) h
/-- where a name stands first -/
def idxS : List ByteArray → ByteArray → Nat
  | [], _ => 0
  | u :: r, v => if u = v then 0 else idxS r v + 1
theorem idxS_le : ∀ (V : List ByteArray) (v : ByteArray), idxS V v ≤ V.length
  | [], _ => Nat.le_refl _
  | u :: r, v => by
    have := idxS_le r v
    rw [idxS, List.length_cons]
    split <;> omega
theorem idxS_lt : ∀ {V : List ByteArray} {v : ByteArray}, idxS V v < V.length ↔ v ∈ V
  | [], v => by simp [idxS]
  | u :: r, v => by
    have := idxS_lt (V := r) (v := v)
    rw [idxS, List.length_cons, List.mem_cons]
    by_cases h : u = v
    · rw [if_pos h]; simp [h]
    · rw [if_neg h, Nat.add_lt_add_iff_right, this]
      exact ⟨.inr, fun h1 => h1.resolve_left (fun e => h e.symm)⟩
theorem idxS_get : ∀ {V : List ByteArray} {v : ByteArray}, v ∈ V → V[idxS V v]? = some v
  | u :: r, v, h => by
    rw [idxS]
    by_cases e : u = v
    · rw [if_pos e, e]; rfl
    · rw [if_neg e, List.getElem?_cons_succ]
      exact idxS_get ((List.mem_cons.1 h).resolve_left (fun e' => e e'.symm))
theorem idxS_hit : ∀ {V : List ByteArray} {v : ByteArray} {i : Nat}, V[i]? = some v → (∀ j, j < i → V[j]? ≠ some v) → idxS V v = i
  | u :: r, v, 0, h, _ => by
    simp only [List.getElem?_cons_zero, Option.some.injEq] at h
    rw [idxS, if_pos h]
  | u :: r, v, i + 1, h, hn => by
    have h0 := hn 0 (by omega)
    simp only [List.getElem?_cons_zero, ne_eq, Option.some.injEq] at h0
    rw [idxS, if_neg h0, idxS_hit (V := r) (by simpa using h) (fun j hj => by simpa using hn (j + 1) (by omega))]
theorem idxS_miss {V : List ByteArray} {v : ByteArray} (h : v ∉ V) : idxS V v = V.length := Nat.le_antisymm (idxS_le V v) (Nat.le_of_not_lt (fun h1 => h (idxS_lt.1 h1)))
theorem idxS_nodup {V : List ByteArray} (hn : V.Nodup) {v : ByteArray} {i : Nat} (h : V[i]? = some v) : idxS V v = i := by
  refine idxS_hit h (fun j hj e => ?_)
  obtain ⟨h1, h2⟩ := List.getElem?_eq_some_iff.1 h
  obtain ⟨h3, h4⟩ := List.getElem?_eq_some_iff.1 e
  exact List.pairwise_iff_getElem.1 hn j i h3 h1 hj (h4.trans h2.symm)
theorem rise_unique : ∀ {V W : List ByteArray}, RiseS V → RiseS W → (∀ x, x ∈ V ↔ x ∈ W) → V = W
  | [], [], _, _, _ => rfl
  | [], y :: W, _, _, h => absurd ((h y).2 (List.mem_cons_self ..)) (by simp)
  | x :: V, [], _, _, h => absurd ((h x).1 (List.mem_cons_self ..)) (by simp)
  | x :: V, y :: W, hV, hW, h => by
    obtain ⟨hx, hV'⟩ := List.pairwise_cons.1 hV
    obtain ⟨hy, hW'⟩ := List.pairwise_cons.1 hW
    have e : x = y := by
      rcases List.mem_cons.1 ((h x).1 (List.mem_cons_self ..)) with h1 | h1
      · exact h1
      · rcases List.mem_cons.1 ((h y).2 (List.mem_cons_self ..)) with h2 | h2
        · exact h2.symm
        · exact absurd (hx y h2) (ltS_asymm (hy x h1))
    subst e
    rw [rise_unique hV' hW' (fun z => ⟨fun hz => ?_, fun hz => ?_⟩)]
    · rcases List.mem_cons.1 ((h z).1 (List.mem_cons_of_mem _ hz)) with h1 | h1
      · exact absurd (hx z hz) (h1 ▸ ltS_irrefl _)
      · exact h1
    · rcases List.mem_cons.1 ((h z).2 (List.mem_cons_of_mem _ hz)) with h1 | h1
      · exact absurd (hy z hz) (h1 ▸ ltS_irrefl _)
      · exact h1

/-- a name, where it stands in the order -/
def addS (l : List ByteArray) (s : ByteArray) : List ByteArray :=
  if idxS l s < l.length then l else l.takeWhile (ltS · s) ++ s :: l.dropWhile (ltS · s)
def setS (l : List ByteArray) : List ByteArray := l.foldl addS []
theorem mem_addS {l : List ByteArray} {s x : ByteArray} : x ∈ addS l s ↔ x ∈ l ∨ x = s := by
  unfold addS
  split
  · rename_i h
    exact ⟨.inl, fun h1 => h1.elim id (fun e => e ▸ idxS_lt.1 h)⟩
  · rw [List.mem_append, List.mem_cons]
    have := List.takeWhile_append_dropWhile (p := (ltS · s)) (l := l)
    constructor
    · rintro (h | rfl | h)
      · exact .inl (this ▸ List.mem_append_left _ h)
      · exact .inr rfl
      · exact .inl (this ▸ List.mem_append_right _ h)
    · rintro (h | rfl)
      · rw [← this] at h
        rcases List.mem_append.1 h with h | h
        · exact .inl h
        · exact .inr (.inr h)
      · exact .inr (.inl rfl)
theorem drop_ge {l : List ByteArray} {s : ByteArray} (h : RiseS l) : ∀ x ∈ l.dropWhile (ltS · s), ¬ ltS x s = true := by
  induction l with
  | nil => simp
  | cons y r ih =>
    obtain ⟨h1, h2⟩ := List.pairwise_cons.1 h
    rw [List.dropWhile_cons]
    split
    · exact ih h2
    · rename_i hy
      intro x hx
      rcases List.mem_cons.1 hx with rfl | hx
      · exact hy
      · exact fun k => hy (ltS_trans (h1 x hx) k)
theorem rise_addS {l : List ByteArray} {s : ByteArray} (h : RiseS l) : RiseS (addS l s) := by
  unfold addS
  split
  · exact h
  · rename_i hn
    have hd := drop_ge (s := s) h
    have ha := List.takeWhile_append_dropWhile (p := (ltS · s)) (l := l)
    have ht : ∀ x ∈ l.takeWhile (ltS · s), ltS x s = true := fun x hx => List.all_eq_true.1 (List.all_takeWhile (p := (ltS · s)) (l := l)) x hx
    have h0 := h
    rw [← ha] at h0
    obtain ⟨p1, p2, p3⟩ := List.pairwise_append.1 h0
    have hs : ∀ x ∈ l.dropWhile (ltS · s), ltS s x = true := fun x hx => ltS_of_not (hd x hx) (fun e => hn (idxS_lt.2 (by rw [← ha]; exact List.mem_append_right _ (e ▸ hx))))
    refine List.pairwise_append.2 ⟨p1, List.pairwise_cons.2 ⟨hs, p2⟩, fun x hx y hy => ?_⟩
    rcases List.mem_cons.1 hy with rfl | hy
    · exact ht x hx
    · exact p3 x hx y hy
theorem set_spec : ∀ (l out : List ByteArray), RiseS out → RiseS (l.foldl addS out) ∧ ∀ x, x ∈ l.foldl addS out ↔ x ∈ out ∨ x ∈ l
  | [], out, h => ⟨h, fun x => by simp⟩
  | s :: l, out, h => by
    obtain ⟨h1, h2⟩ := set_spec l (addS out s) (rise_addS h)
    refine ⟨h1, fun x => ?_⟩
    rw [List.foldl_cons, h2, mem_addS, List.mem_cons, or_assoc]
theorem rise_setS (l : List ByteArray) : RiseS (setS l) := (set_spec l [] .nil).1
theorem mem_setS {l : List ByteArray} {x : ByteArray} : x ∈ setS l ↔ x ∈ l := by rw [setS, (set_spec l [] .nil).2]; simp
theorem setS_of {V l : List ByteArray} (h : RiseS V) (hm : ∀ x, x ∈ V ↔ x ∈ l) : V = setS l := rise_unique h (rise_setS l) (fun x => (hm x).trans mem_setS.symm)
theorem setS_self {V : List ByteArray} (h : RiseS V) : setS V = V := (setS_of h (fun _ => Iff.rfl)).symm
theorem setS_length (l : List ByteArray) : (setS l).length ≤ l.length := by
  have : ∀ (l out : List ByteArray), (l.foldl addS out).length ≤ out.length + l.length := by
    intro l
    induction l with
    | nil => intro out; simp
    | cons s l ih =>
      intro out
      rw [List.foldl_cons, List.length_cons]
      refine Nat.le_trans (ih _) ?_
      have : (addS out s).length ≤ out.length + 1 := by
        unfold addS
        split
        · omega
        · have := congrArg List.length (List.takeWhile_append_dropWhile (p := (ltS · s)) (l := out))
          rw [List.length_append] at this
          rw [List.length_append, List.length_cons]
          omega
      omega
  simpa [setS] using this l []

/-- what sorting makes -/
def sortS (L : List ByteArray) : List ByteArray := ((L.map toL).mergeSort fun x y => decide (x ≤ y)).map ofL
theorem sortS_toL (L : List ByteArray) : (sortS L).map toL = (L.map toL).mergeSort fun x y => decide (x ≤ y) := by
  unfold sortS
  rw [List.map_map]
  exact List.map_id _
theorem sortS_length (L : List ByteArray) : (sortS L).length = L.length := by simp [sortS]
theorem sortS_mem {L : List ByteArray} {x : ByteArray} : x ∈ sortS L ↔ x ∈ L := by
  have h : toL x ∈ (sortS L).map toL ↔ toL x ∈ L.map toL := by rw [sortS_toL]; exact (List.mergeSort_perm _ _).mem_iff
  have hi : ∀ M : List ByteArray, toL x ∈ M.map toL ↔ x ∈ M := fun M => ⟨fun h => by
    obtain ⟨y, hy, e⟩ := List.mem_map.1 h
    exact toL_inj e ▸ hy, fun h => List.mem_map.2 ⟨x, h, rfl⟩⟩
  rw [hi, hi] at h
  exact h
theorem sortS_le (L : List ByteArray) : ((sortS L).map toL).Pairwise (· ≤ ·) := by
  rw [sortS_toL]
  exact (List.pairwise_mergeSort (le := fun x y : List UInt8 => decide (x ≤ y)) (fun a b c h1 h2 => by simp at *; exact List.le_trans h1 h2) (fun a b => by simpa using List.le_total a b) (L.map toL)).imp (fun h => by simpa using h)

/-- what is left where each comes once -/
def cptS (d : List (List UInt8)) : List ByteArray := (Lib.compactUpTo d.toArray d.length).map ofL
theorem cptS_rise {L : List ByteArray} (h : (L.map toL).Pairwise (· ≤ ·)) : RiseS (cptS (L.map toL)) := by
  unfold cptS Lib.compactUpTo
  rw [List.map_map]
  unfold RiseS
  rw [List.pairwise_map]
  have h0 : ((List.range (L.map toL).length).filter (Lib.keeps (L.map toL).toArray)).Pairwise (fun i j => i < j ∧ j < (L.map toL).length ∧ Lib.keeps (L.map toL).toArray j = true) := by
    have h1 : (List.range (L.map toL).length).Pairwise (fun i j => i < j ∧ j < (L.map toL).length) := by
      refine List.Pairwise.imp_of_mem (fun {a b} _ hb h => ⟨h, List.mem_range.1 hb⟩) (List.pairwise_lt_range)
    refine List.Pairwise.imp_of_mem (fun {a b} _ hb h => ⟨h.1, h.2, (List.mem_filter.1 hb).2⟩) (h1.filter _)
  refine h0.imp (fun {i j} hij => ?_)
  obtain ⟨h1, h2, h3⟩ := hij
  have hp := fun a b (ha : a < (L.map toL).length) (hb : b < (L.map toL).length) hab => List.pairwise_iff_getElem.1 h a b ha hb hab
  simp only [Function.comp]
  rw [ltS_iff, toL_ofL, toL_ofL]
  have ei : (L.map toL).toArray[i]! = (L.map toL)[i] := by simp [show i < L.length by simp at h2; omega]
  have ej : (L.map toL).toArray[j]! = (L.map toL)[j] := by simp [show j < L.length by simpa using h2]
  have ek : (L.map toL).toArray[j - 1]! = (L.map toL)[j - 1] := by simp [show j - 1 < L.length by simp at h2; omega]
  rw [ei, ej]
  have hk : (L.map toL)[j] ≠ (L.map toL)[j - 1] := by
    simp only [Lib.keeps, decide_eq_true_eq] at h3
    rcases h3 with h3 | h3
    · omega
    · rwa [ej, ek] at h3
  have l1 := hp (j - 1) j (by omega) h2 (by omega)
  have l2 : (L.map toL)[i] ≤ (L.map toL)[j - 1] := by
    rcases Nat.lt_or_ge i (j - 1) with h | h
    · exact hp i (j - 1) (by omega) (by omega) h
    · have : i = j - 1 := by omega
      subst this; exact List.le_refl _
  have l3 := List.le_trans l2 l1
  refine Classical.byContradiction fun hn => ?_
  have l4 := List.not_lt.1 hn
  exact hk (List.le_antisymm (List.le_trans l4 l2) l1)
theorem cptS_mem {L : List ByteArray} {x : ByteArray} : x ∈ cptS (L.map toL) ↔ x ∈ L := by
  unfold cptS Lib.compactUpTo
  rw [List.map_map]
  constructor
  · intro h
    obtain ⟨j, hj, rfl⟩ := List.mem_map.1 h
    have hj' : j < L.length := by simpa using (List.mem_filter.1 hj).1
    have e : (L.map toL).toArray[j]! = toL L[j] := by simp [hj']
    simp only [Function.comp]
    rw [e, ofL_toL]
    exact List.getElem_mem hj'
  · intro h
    have key : ∀ (n j : Nat) (hj : j < L.length), j ≤ n → L[j] ∈ List.map (ofL ∘ fun x => (L.map toL).toArray[x]!) ((List.range (L.map toL).length).filter (Lib.keeps (L.map toL).toArray)) := by
      intro n
      induction n with
      | zero =>
        intro j hj hn
        have e : (L.map toL).toArray[j]! = toL L[j] := by simp [hj]
        refine List.mem_map.2 ⟨j, List.mem_filter.2 ⟨by simpa using hj, Lib.keeps_lt_one _ _ (by omega)⟩, ?_⟩
        simp only [Function.comp]
        rw [e, ofL_toL]
      | succ n ih =>
        intro j hj hn
        have e : (L.map toL).toArray[j]! = toL L[j] := by simp [hj]
        by_cases hk : Lib.keeps (L.map toL).toArray j = true
        · refine List.mem_map.2 ⟨j, List.mem_filter.2 ⟨by simpa using hj, hk⟩, ?_⟩
          simp only [Function.comp]
          rw [e, ofL_toL]
        · simp only [Lib.keeps, decide_eq_true_eq] at hk
          have hj0 : j ≠ 0 := fun e => hk (.inl e)
          have e2 : (L.map toL).toArray[j - 1]! = toL L[j - 1] := by simp [show j - 1 < L.length by omega]
          have h3 : L[j] = L[j - 1] := toL_inj (by
            rw [← e, ← e2]
            exact Classical.byContradiction fun hh => hk (.inr hh))
          rw [h3]
          exact ih (j - 1) (by omega) (by omega)
    obtain ⟨j, hj, rfl⟩ := List.getElem_of_mem h
    exact key j j hj (Nat.le_refl _)
theorem set_is (L : List ByteArray) : cptS ((sortS L).map toL) = setS L :=
  setS_of (cptS_rise (sortS_le L)) (fun x => cptS_mem.trans sortS_mem)

/-- a var's number in a row -/
def valN (V : List ByteArray) (row : List Int) (v : ByteArray) : Int := if idxS V v < V.length then row.getD (idxS V v) (-1) else -1
/-- a row of what is told of each var -/
def rowOf (V : List ByteArray) (g : ByteArray → Int) : List Int := V.map fun v => max (g v) (-1)
theorem rowOf_length (V : List ByteArray) (g : ByteArray → Int) : (rowOf V g).length = V.length := by simp [rowOf]
theorem valN_rowOf {V : List ByteArray} {g : ByteArray → Int} {v : ByteArray} : valN V (rowOf V g) v = if idxS V v < V.length then max (g v) (-1) else -1 := by
  unfold valN
  split
  · rename_i h
    rw [List.getD_eq_getElem?_getD, rowOf, List.getElem?_map, idxS_get (idxS_lt.1 h)]
    rfl
  · rfl
def ltN (n : Int) : Bool := decide (n < -1)
/-- a table that may be -/
def riseB (V : List ByteArray) : Bool := (List.range V.length).all fun i => i == 0 || ltS (V.getD (i - 1) ⟨#[]⟩) (V.getD i ⟨#[]⟩)
def badRow (n : Nat) (row : List Int) : Bool := (row.length != n) || row.any ltN
def goodB (V : List ByteArray) (R : List (List Int)) : Bool := riseB V && !R.any (badRow V.length)
/-- two rows of two tables -/
def compB (U : List ByteArray) (V : List ByteArray) (x y : List Int) : Bool :=
  (List.range U.length).all fun i => !(decide (0 ≤ valN V y (U.getD i ⟨#[]⟩)) && decide (0 ≤ x.getD i (-1)) && (valN V y (U.getD i ⟨#[]⟩) != x.getD i (-1)))
def joinR (U V : List ByteArray) (x y : List Int) : List Int := rowOf (setS (U ++ V)) fun v => max (valN U x v) (valN V y v)
def joinN (U V : List ByteArray) (R S : List (List Int)) : List (List Int) := R.flatMap fun x => (S.filter (compB U V x)).map (joinR U V x)
/-- what Of makes of a row -/
def ofRow (names : List ByteArray) (row : List Int) : List Int := rowOf (setS names) fun v => if idxS names v < row.length then row.getD (idxS names v) (-1) else -1
end Go.Proofs.YtniggdaakiofeaaDoor
