/- Plain: bags of keys by times; contents. -/
import Derived.Test.YtojgbphmkloicaaKk
namespace Go.Proofs.Ytojgbphmkloicaa
open Go

/-- an element: a time, a key -/
abbrev Ev := Int × Key
def cnt (E : List Ev) (o c : Int) (k : Key) : Nat := E.countP fun e => decide (e.2 = k ∧ o ≤ e.1 ∧ e.1 < c)
def many (E : List Ev) (o c : Int) : Nat := E.countP fun e => decide (o ≤ e.1 ∧ e.1 < c)
def ltK (x y : Key) : Prop := x.a < y.a ∨ x.a = y.a ∧ (x.b < y.b ∨ x.b = y.b ∧ x.c < y.c)
instance (x y : Key) : Decidable (ltK x y) := by unfold ltK; infer_instance
theorem ltK_irrefl (x : Key) : ¬ ltK x x := by unfold ltK; omega
theorem ltK_trans {x y z : Key} (h : ltK x y) (k : ltK y z) : ltK x z := by unfold ltK at *; omega
theorem ltK_total {x y : Key} (h : ¬ ltK x y) (hne : x ≠ y) : ltK y x := by
  cases x; cases y
  unfold ltK at *
  simp only [ne_eq, Key.mk.injEq] at *
  omega
/-- what a content is -/
structure Cont (E : List Ev) (o c : Int) (L : List (Key × Nat)) : Prop where
  up : L.Pairwise fun p q => ltK p.1 q.1
  mem : ∀ k n, (k, n) ∈ L ↔ n = cnt E o c k ∧ 0 < n
theorem sorted_one {α : Type} {lt : α → α → Prop} (hi : ∀ x, ¬ lt x x) (ht : ∀ {x y z}, lt x y → lt y z → lt x z) : ∀ {L M : List α}, L.Pairwise lt → M.Pairwise lt → (∀ x, x ∈ L ↔ x ∈ M) → L = M
  | [], [], _, _, _ => rfl
  | [], y :: M, _, _, h => absurd ((h y).2 (List.mem_cons_self ..)) (by simp)
  | x :: L, [], _, _, h => absurd ((h x).1 (List.mem_cons_self ..)) (by simp)
  | x :: L, y :: M, hL, hM, h => by
    obtain ⟨l1, l2⟩ := List.pairwise_cons.1 hL
    obtain ⟨m1, m2⟩ := List.pairwise_cons.1 hM
    have hxy : x = y := by
      rcases List.mem_cons.1 ((h x).1 (List.mem_cons_self ..)) with e | hx
      · exact e
      · rcases List.mem_cons.1 ((h y).2 (List.mem_cons_self ..)) with e | hy
        · exact e.symm
        · exact absurd (ht (l1 y hy) (m1 x hx)) (hi x)
    subst hxy
    rw [sorted_one hi ht l2 m2 (fun z => ?_)]
    constructor
    · intro hz
      rcases List.mem_cons.1 ((h z).1 (List.mem_cons_of_mem _ hz)) with rfl | hz'
      · exact absurd (l1 z hz) (hi z)
      · exact hz'
    · intro hz
      rcases List.mem_cons.1 ((h z).2 (List.mem_cons_of_mem _ hz)) with rfl | hz'
      · exact absurd (m1 z hz) (hi z)
      · exact hz'
theorem cont_unique {E E' : List Ev} {o c o' c' : Int} {L L' : List (Key × Nat)} (h : Cont E o c L) (h' : Cont E' o' c' L') (he : ∀ k, cnt E o c k = cnt E' o' c' k) : L = L' := by
  refine sorted_one (lt := fun p q => ltK p.1 q.1) (fun _ => ltK_irrefl _) ltK_trans h.up h'.up (fun x => ?_)
  obtain ⟨k, n⟩ := x
  rw [h.mem, h'.mem, he]
theorem cnt_perm {E E' : List Ev} (h : E.Perm E') (o c : Int) (k : Key) : cnt E o c k = cnt E' o c k := h.countP_eq _
theorem many_perm {E E' : List Ev} (h : E.Perm E') (o c : Int) : many E o c = many E' o c := h.countP_eq _
theorem cnt_split {E : List Ev} {a b c : Int} (h1 : a ≤ b) (h2 : b ≤ c) (k : Key) : cnt E a c k = cnt E a b k + cnt E b c k := by
  unfold cnt
  induction E with
  | nil => rfl
  | cons e E ih =>
    simp only [List.countP_cons, ih]
    by_cases h3 : e.2 = k
    · by_cases h4 : a ≤ e.1 <;> by_cases h5 : e.1 < b <;> by_cases h6 : e.1 < c <;> by_cases h7 : b ≤ e.1 <;> simp [h3, h4, h5, h6, h7] <;> omega
    · simp [h3]
theorem many_split {E : List Ev} {a b c : Int} (h1 : a ≤ b) (h2 : b ≤ c) : many E a c = many E a b + many E b c := by
  unfold many
  induction E with
  | nil => rfl
  | cons e E ih =>
    simp only [List.countP_cons, ih]
    by_cases h4 : a ≤ e.1 <;> by_cases h5 : e.1 < b <;> by_cases h6 : e.1 < c <;> by_cases h7 : b ≤ e.1 <;> simp [h4, h5, h6, h7] <;> omega
def sumN (L : List (Key × Nat)) : Nat := (L.map (·.2)).sum
theorem sumN_nil : sumN [] = 0 := rfl
theorem sumN_cons (p : Key × Nat) (L : List (Key × Nat)) : sumN (p :: L) = p.2 + sumN L := by simp [sumN]
theorem sumN_append (L M : List (Key × Nat)) : sumN (L ++ M) = sumN L + sumN M := by simp [sumN]
theorem sum_keys : ∀ (ks : List Key) (E : List Ev) (p : Ev → Bool), ks.Nodup → (∀ e ∈ E, p e = true → e.2 ∈ ks) → (ks.map fun k => E.countP fun e => decide (e.2 = k) && p e).sum = E.countP p
  | ks, [], p, _, _ => by
    induction ks with
    | nil => rfl
    | cons k ks ih => simp_all
  | ks, e :: E, p, hn, h => by
    have ih := sum_keys ks E p hn (fun x hx => h x (List.mem_cons_of_mem _ hx))
    have hone : ∀ (l : List Key), l.Nodup → (l.map fun k => if (decide (e.2 = k) && p e) = true then 1 else 0).sum = if e.2 ∈ l ∧ p e = true then 1 else 0 := by
      intro l
      induction l with
      | nil => intro _; simp
      | cons k l ihl =>
        intro hl
        obtain ⟨h1, h2⟩ := List.nodup_cons.1 hl
        rw [List.map_cons, List.sum_cons, ihl h2]
        by_cases hp : p e = true
        · by_cases hk : e.2 = k
          · subst hk
            simp [hp, h1]
          · simp [hp, hk]
        · simp [hp]
    have hs : (ks.map fun k => (e :: E).countP fun e => decide (e.2 = k) && p e).sum = (ks.map fun k => E.countP fun e => decide (e.2 = k) && p e).sum + (ks.map fun k => if (decide (e.2 = k) && p e) = true then 1 else 0).sum := by
      clear ih hone hn h
      induction ks with
      | nil => rfl
      | cons k ks ihk =>
        rw [List.map_cons, List.sum_cons, ihk, List.map_cons, List.sum_cons, List.map_cons, List.sum_cons, List.countP_cons]
        omega
    rw [hs, ih, hone ks hn, List.countP_cons]
    congr 1
    by_cases hp : p e = true
    · simp [hp, h e (List.mem_cons_self ..) hp]
    · simp [hp]
theorem cont_nodup {E : List Ev} {o c : Int} {L : List (Key × Nat)} (h : Cont E o c L) : (L.map (·.1)).Nodup := by
  refine List.pairwise_map.2 (h.up.imp (fun {p q} hpq e => ?_))
  rw [e] at hpq
  exact ltK_irrefl _ hpq
theorem cont_total {E : List Ev} {o c : Int} {L : List (Key × Nat)} (h : Cont E o c L) : sumN L = many E o c := by
  have h1 := sum_keys (L.map (·.1)) E (fun e => decide (o ≤ e.1 ∧ e.1 < c)) (cont_nodup h) (fun e he hp => by
    have : (e.2, cnt E o c e.2) ∈ L := (h.mem _ _).2 ⟨rfl, List.countP_pos_iff.2 ⟨e, he, by simpa using hp⟩⟩
    exact List.mem_map.2 ⟨_, this, rfl⟩)
  unfold many
  rw [← h1, List.map_map]
  unfold sumN
  congr 1
  refine List.map_congr_left (fun p hp => ?_)
  obtain ⟨k, n⟩ := p
  rw [((h.mem k n).1 hp).1]
  unfold cnt
  simp only [Function.comp_apply]
  refine List.countP_congr (fun e _ => ?_)
  simp
theorem sum_where {E : List Ev} {o c : Int} {L : List (Key × Nat)} (h : Cont E o c L) (k : Key) : sumN (L.filter fun p => decide (p.1 = k)) = cnt E o c k := by
  have hgen : ∀ M : List (Key × Nat), M.Pairwise (fun p q => ltK p.1 q.1) → ∀ n, (k, n) ∈ M → sumN (M.filter fun p => decide (p.1 = k)) = n := by
    intro M
    induction M with
    | nil => intro _ n hn; cases hn
    | cons p M ih =>
      intro hM n hn
      obtain ⟨m1, m2⟩ := List.pairwise_cons.1 hM
      have hno : ∀ (hk : p.1 = k), M.filter (fun p => decide (p.1 = k)) = [] := fun hk => List.filter_eq_nil_iff.2 (fun q hq hq' => by
        have h5 := m1 q hq
        rw [hk, (of_decide_eq_true hq' : q.1 = k)] at h5
        exact ltK_irrefl _ h5)
      rcases List.mem_cons.1 hn with rfl | hn
      · rw [List.filter_cons_of_pos (by simp), sumN_cons, hno rfl]
        rfl
      · by_cases hk : p.1 = k
        · exfalso
          have h5 := m1 _ hn
          rw [hk] at h5
          exact ltK_irrefl _ h5
        · rw [List.filter_cons_of_neg (by simpa using hk)]
          exact ih m2 n hn
  by_cases h0 : 0 < cnt E o c k
  · exact hgen L h.up _ ((h.mem _ _).2 ⟨rfl, h0⟩)
  · rw [List.filter_eq_nil_iff.2 (fun p hp hk => by
      obtain ⟨k', n⟩ := p
      have hk' : k' = k := of_decide_eq_true hk
      subst hk'
      have := (h.mem _ _).1 hp
      omega)]
    show 0 = _
    omega
/-- buckets -/
abbrev Bk := Int × List Key
def flatB (bs : List Bk) : List Ev := bs.flatMap fun p => p.2.map fun k => (p.1, k)
def RiseB (bs : List Bk) : Prop := bs.Pairwise fun p q => p.1 < q.1
def idxB (bs : List Bk) (t : Int) : Nat := bs.countP fun p => decide (p.1 < t)
theorem flatB_nil : flatB [] = [] := rfl
theorem flatB_cons (p : Bk) (bs : List Bk) : flatB (p :: bs) = (p.2.map fun k => (p.1, k)) ++ flatB bs := by simp [flatB]
theorem flatB_append (bs cs : List Bk) : flatB (bs ++ cs) = flatB bs ++ flatB cs := by simp [flatB]
theorem idxB_le (bs : List Bk) (t : Int) : idxB bs t ≤ bs.length := List.countP_le_length
theorem idxB_cons (p : Bk) (bs : List Bk) (t : Int) : idxB (p :: bs) t = idxB bs t + if p.1 < t then 1 else 0 := by
  unfold idxB
  rw [List.countP_cons]
  simp
theorem idxB_zero {bs : List Bk} {t : Int} (h : ∀ p ∈ bs, t ≤ p.1) : idxB bs t = 0 := List.countP_eq_zero.2 (fun p hp => by have := h p hp; simp; omega)
theorem idxB_lt : ∀ {bs : List Bk} {t : Int}, RiseB bs → ∀ (i : Nat) (p : Bk), bs[i]? = some p → (i < idxB bs t ↔ p.1 < t)
  | [], _, _, i, p, h => by simp at h
  | q :: bs, t, hr, i, p, h => by
    obtain ⟨h1, h2⟩ := List.pairwise_cons.1 hr
    rw [idxB_cons]
    by_cases hq : q.1 < t
    · rw [if_pos hq]
      cases i with
      | zero => simp at h; subst h; simp [hq]
      | succ i => rw [← idxB_lt h2 i p (by simpa using h)]; omega
    · rw [if_neg hq, idxB_zero (fun p' hp' => by have := h1 p' hp'; omega)]
      have : ¬ p.1 < t := by
        rcases List.mem_cons.1 (List.mem_of_getElem? h) with rfl | hp
        · exact hq
        · have := h1 p hp; omega
      omega
theorem take_idx {bs : List Bk} {t : Int} (hr : RiseB bs) : ∀ p ∈ bs.take (idxB bs t), p.1 < t := fun p hp => by
  obtain ⟨i, hi⟩ := List.getElem?_of_mem hp
  rw [List.getElem?_take] at hi
  split at hi
  · rename_i hlt
    exact (idxB_lt hr i p hi).1 hlt
  · cases hi
theorem drop_idx {bs : List Bk} {t : Int} (hr : RiseB bs) : ∀ p ∈ bs.drop (idxB bs t), t ≤ p.1 := fun p hp => by
  obtain ⟨i, hi⟩ := List.getElem?_of_mem hp
  rw [List.getElem?_drop] at hi
  have := (idxB_lt (t := t) hr _ p hi)
  omega
theorem mem_flatB {bs : List Bk} {t : Int} {k : Key} : (t, k) ∈ flatB bs ↔ ∃ ks, (t, ks) ∈ bs ∧ k ∈ ks := by
  unfold flatB
  simp only [List.mem_flatMap, List.mem_map, Prod.mk.injEq]
  constructor
  · rintro ⟨⟨t', ks⟩, hp, k', hk, rfl, rfl⟩
    exact ⟨ks, hp, hk⟩
  · rintro ⟨ks, hp, hk⟩
    exact ⟨(t, ks), hp, k, hk, rfl, rfl⟩
theorem split_at {bs : List Bk} {i : Nat} {p : Bk} (h : bs[i]? = some p) : bs = bs.take i ++ p :: bs.drop (i + 1) := by
  have hi := (List.getElem?_eq_some_iff.1 h).1
  have := List.getElem?_eq_getElem hi
  rw [h] at this
  rw [Option.some.inj this, ← List.drop_eq_getElem_cons hi, List.take_append_drop]
theorem set_split {bs : List Bk} {i : Nat} {p q : Bk} (h : bs[i]? = some p) : bs.set i q = bs.take i ++ q :: bs.drop (i + 1) := by
  have hi := (List.getElem?_eq_some_iff.1 h).1
  exact List.set_eq_take_append_cons_drop .. |>.trans (by rw [if_pos hi])
theorem add_there {bs : List Bk} {i : Nat} {t : Int} {ks : List Key} (k : Key) (h : bs[i]? = some (t, ks)) : (flatB (bs.set i (t, ks ++ [k]))).Perm (flatB bs ++ [(t, k)]) := by
  rw [set_split h]
  conv => rhs; rw [split_at h]
  simp only [flatB_append, flatB_cons, List.map_append, List.map_cons, List.map_nil, List.append_assoc]
  refine List.Perm.append_left _ (List.Perm.append_left _ ?_)
  rw [List.singleton_append]
  exact (List.perm_append_singleton _ _).symm
theorem add_new (bs : List Bk) (i : Nat) (t : Int) (k : Key) : (flatB (bs.take i ++ (t, [k]) :: bs.drop i)).Perm (flatB bs ++ [(t, k)]) := by
  conv => rhs; rw [← List.take_append_drop i bs]
  simp only [flatB_append, flatB_cons, List.map_cons, List.map_nil, List.append_assoc]
  refine List.Perm.append_left _ ?_
  rw [List.singleton_append]
  exact (List.perm_append_singleton _ _).symm
theorem rise_set {bs : List Bk} {i : Nat} {t : Int} {ks ks' : List Key} (h : bs[i]? = some (t, ks)) (hr : RiseB bs) : RiseB (bs.set i (t, ks')) := by
  have e : (bs.set i (t, ks')).map (·.1) = bs.map (·.1) := by
    rw [List.map_set]
    refine List.ext_getElem? (fun j => ?_)
    rw [List.getElem?_set]
    split
    · rename_i hij
      subst hij
      have hi := (List.getElem?_eq_some_iff.1 h).1
      rw [if_pos (by simpa using hi), List.getElem?_map, h]
      rfl
    · rfl
  unfold RiseB at *
  have h1 : (bs.map (·.1)).Pairwise (fun a b : Int => a < b) := List.pairwise_map.2 hr
  rw [← e] at h1
  exact List.pairwise_map.1 h1
theorem rise_ins {bs : List Bk} {t : Int} {ks : List Key} (hr : RiseB bs) (hno : ∀ p, bs[idxB bs t]? = some p → p.1 ≠ t) : RiseB (bs.take (idxB bs t) ++ (t, ks) :: bs.drop (idxB bs t)) := by
  unfold RiseB at *
  refine List.pairwise_append.2 ⟨hr.sublist (List.take_sublist ..), List.pairwise_cons.2 ⟨fun p hp => ?_, hr.sublist (List.drop_sublist ..)⟩, fun p hp q hq => ?_⟩
  · have h1 := drop_idx hr p hp
    obtain ⟨j, hj⟩ := List.getElem?_of_mem hp
    rw [List.getElem?_drop] at hj
    rcases Nat.eq_zero_or_pos j with rfl | hj0
    · have := hno p hj
      show t < p.1
      omega
    · have hj' := hj
      have hlt : idxB bs t < bs.length := by have := (List.getElem?_eq_some_iff.1 hj).1; omega
      have h2 := List.pairwise_iff_getElem.1 hr (idxB bs t) (idxB bs t + j) hlt (List.getElem?_eq_some_iff.1 hj).1 (by omega)
      have h3 := (idxB_lt (t := t) hr (idxB bs t) _ (List.getElem?_eq_getElem hlt))
      have h4 := (List.getElem?_eq_some_iff.1 hj).2
      rw [h4] at h2
      show t < p.1
      omega
  · have h1 := take_idx hr p hp
    rcases List.mem_cons.1 hq with rfl | hq
    · exact h1
    · have := drop_idx hr q hq
      omega
theorem rise_drop {bs : List Bk} (hr : RiseB bs) (n : Nat) : RiseB (bs.drop n) := hr.sublist (List.drop_sublist ..)
theorem rise_cut {bs : List Bk} (hr : RiseB bs) (i j : Nat) (hij : i ≤ j) : RiseB (bs.take i ++ bs.drop j) := by
  have : (bs.take i ++ bs.drop j).Sublist bs := by
    conv => rhs; rw [← List.take_append_drop i bs]
    exact List.Sublist.append (List.Sublist.refl _) (by
      have : bs.drop j = (bs.drop i).drop (j - i) := by rw [List.drop_drop]; congr 1; omega
      rw [this]
      exact List.drop_sublist ..)
  exact hr.sublist this
/-- where an element's bucket is -/
theorem find_there {bs : List Bk} (hr : RiseB bs) {t : Int} {k : Key} : (t, k) ∈ flatB bs ↔ ∃ ks, bs[idxB bs t]? = some (t, ks) ∧ k ∈ ks := by
  rw [mem_flatB]
  constructor
  · rintro ⟨ks, hp, hk⟩
    obtain ⟨i, hi⟩ := List.getElem?_of_mem hp
    have h1 := idxB_lt (t := t) hr i _ hi
    refine ⟨ks, ?_, hk⟩
    have hle : idxB bs t ≤ i := by
      have : ¬ i < idxB bs t := fun h => by have := h1.1 h; simp at this
      omega
    rcases Nat.lt_or_eq_of_le hle with hlt | heq
    · exfalso
      have hil := (List.getElem?_eq_some_iff.1 hi).1
      have h2 := List.pairwise_iff_getElem.1 hr (idxB bs t) i (by omega) hil hlt
      have h3 := (idxB_lt (t := t) hr (idxB bs t) _ (List.getElem?_eq_getElem (by omega)))
      have h4 := (List.getElem?_eq_some_iff.1 hi).2
      rw [h4] at h2
      simp only at h2
      omega
    · rw [heq]; exact hi
  · rintro ⟨ks, h, hk⟩
    exact ⟨ks, List.mem_of_getElem? h, hk⟩
theorem map_erase_one (t : Int) (k : Key) : ∀ ks : List Key, (ks.map fun k => (t, k)).erase (t, k) = (ks.erase k).map fun k => (t, k)
  | [] => rfl
  | x :: ks => by
    by_cases h : x = k
    · subst h; simp
    · rw [List.map_cons, List.erase_cons_tail (by simpa using h), List.erase_cons_tail (by simpa using h), map_erase_one t k ks, List.map_cons]
theorem del_flat {bs : List Bk} (hr : RiseB bs) {t : Int} {k : Key} {ks : List Key} (h : bs[idxB bs t]? = some (t, ks)) (hk : k ∈ ks) : flatB (bs.set (idxB bs t) (t, ks.erase k)) = (flatB bs).erase (t, k) := by
  rw [set_split h]
  conv => rhs; rw [split_at h]
  simp only [flatB_append, flatB_cons]
  rw [List.erase_append_right _ (fun hm => by
    obtain ⟨ks', hp, _⟩ := mem_flatB.1 hm
    have := take_idx hr _ hp
    simp at this), List.erase_append_left _ (List.mem_map.2 ⟨k, hk, rfl⟩), map_erase_one]
theorem del_empty {bs : List Bk} {i : Nat} {t : Int} (h : bs[i]? = some (t, [])) : flatB (bs.take i ++ bs.drop (i + 1)) = flatB bs := by
  conv => rhs; rw [split_at h]
  simp [flatB_append, flatB_cons]
theorem exp_flat {bs : List Bk} (hr : RiseB bs) (t : Int) : flatB (bs.drop (idxB bs t)) = (flatB bs).filter fun e => decide (t ≤ e.1) := by
  conv => rhs; rw [← List.take_append_drop (idxB bs t) bs, flatB_append, List.filter_append]
  rw [List.filter_eq_nil_iff.2, List.filter_eq_self.2, List.nil_append]
  · rintro ⟨t', k⟩ he
    obtain ⟨ks, hp, _⟩ := mem_flatB.1 he
    have := drop_idx hr _ hp
    simpa using this
  · rintro ⟨t', k⟩ he
    obtain ⟨ks, hp, _⟩ := mem_flatB.1 he
    have := take_idx hr _ hp
    simp at this ⊢
    omega
def lenB (bs : List Bk) : Nat := (bs.map fun p => p.2.length).sum
theorem lenB_flat : ∀ bs : List Bk, lenB bs = (flatB bs).length
  | [] => rfl
  | p :: bs => by
    rw [flatB_cons, List.length_append, List.length_map, ← lenB_flat bs]
    simp [lenB]
theorem exp_many {bs : List Bk} (hr : RiseB bs) (t : Int) : lenB (bs.take (idxB bs t)) + ((flatB bs).filter fun e => decide (t ≤ e.1)).length = (flatB bs).length := by
  rw [← exp_flat hr, lenB_flat, ← List.length_append, ← flatB_append, List.take_append_drop]
/-- the buckets of a while -/
def whileB (bs : List Bk) (o c : Int) : List Bk := (bs.take (max (idxB bs o) (idxB bs c))).drop (idxB bs o)
theorem cnt_flatB (k : Key) (o c : Int) : ∀ bs : List Bk, cnt (flatB bs) o c k = (bs.map fun p => if o ≤ p.1 ∧ p.1 < c then p.2.count k else 0).sum
  | [] => rfl
  | p :: bs => by
    have ih := cnt_flatB k o c bs
    unfold cnt at ih ⊢
    rw [flatB_cons, List.countP_append, ih, List.map_cons, List.sum_cons, List.countP_map]
    congr 1
    split
    · rename_i h
      unfold List.count
      refine List.countP_congr (fun x _ => ?_)
      simp [h]
    · rename_i h
      refine List.countP_eq_zero.2 (fun x _ => ?_)
      simp only [Function.comp_apply, decide_eq_true_eq]
      intro hh
      exact h hh.2
theorem cnt_while {bs : List Bk} (hr : RiseB bs) (o c : Int) (k : Key) : cnt (flatB bs) o c k = ((whileB bs o c).map fun p => p.2.count k).sum := by
  rw [cnt_flatB]
  have key : ∀ l : List Bk, (∀ p ∈ l, ¬ (o ≤ p.1 ∧ p.1 < c)) → (l.map fun p => if o ≤ p.1 ∧ p.1 < c then p.2.count k else 0).sum = 0 := by
    intro l
    induction l with
    | nil => intro _; rfl
    | cons p l ih =>
      intro h
      rw [List.map_cons, List.sum_cons, ih (fun q hq => h q (List.mem_cons_of_mem _ hq)), if_neg (h p (List.mem_cons_self ..))]
  have key2 : ∀ l : List Bk, (∀ p ∈ l, o ≤ p.1 ∧ p.1 < c) → (l.map fun p => if o ≤ p.1 ∧ p.1 < c then p.2.count k else 0).sum = (l.map fun p => p.2.count k).sum := by
    intro l h
    congr 1
    refine List.map_congr_left (fun p hp => ?_)
    rw [if_pos (h p hp)]
  have hsplit : bs = bs.take (idxB bs o) ++ (whileB bs o c ++ bs.drop (max (idxB bs o) (idxB bs c))) := by
    unfold whileB
    have h1 : bs.take (idxB bs o) = (bs.take (max (idxB bs o) (idxB bs c))).take (idxB bs o) := by rw [List.take_take, Nat.min_eq_left (by omega)]
    rw [h1, ← List.append_assoc, List.take_append_drop, List.take_append_drop]
  conv => lhs; rw [hsplit, List.map_append, List.map_append, List.sum_append, List.sum_append]
  rw [key _ (fun p hp h => by have := take_idx hr p hp; omega), key2 (whileB bs o c) (fun p hp => ?_), key (bs.drop _) (fun p hp h => ?_)]
  · omega
  · obtain ⟨i, hi⟩ := List.getElem?_of_mem hp
    rw [List.getElem?_drop] at hi
    have := idxB_lt (t := c) hr _ p hi
    omega
  · unfold whileB at hp
    obtain ⟨i, hi⟩ := List.getElem?_of_mem hp
    rw [List.getElem?_drop, List.getElem?_take] at hi
    split at hi
    · rename_i hlt
      have h1 := idxB_lt (t := o) hr _ p hi
      have h2 := idxB_lt (t := c) hr _ p hi
      omega
    · cases hi
end Go.Proofs.Ytojgbphmkloicaa
