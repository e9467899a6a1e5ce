/- Texts joined: Km. -/
import Derived.Maps.OwnOps
import Derived.Maps.OwnSet
import Derived.Maps.RangeWalk
import Derived.Test.YtiabmdboacpmcaaY06
/- Maps seen as functions, over any type of keys and of elements; ranging over them. -/
namespace Go.Proofs.Ytiabmdboacpmcaa
open Go Go.RowKit Go.Sort Go.WideMaps Go.Maps

/-- a type of keys, as Lean sees it -/
structure KT (P : Program) (k : TypeId) (α : Type) where
  val : α → Value
  ok : α → Prop
  lit : α → Lit
  law : Keyed P k
  key : ∀ x, ok x → keyOf P k (val x) = some (lit x)
  inv : ∀ v l, keyOf P k v = some l → ∃ x, ok x ∧ v = val x
  inj : ∀ x y, val x = val y → x = y
/-- a type of elements -/
structure ET (P : Program) (e : TypeId) (β : Type) where
  val : β → Value
  dat : β → DataW Unit
  ok : β → Prop
  rd : Value → Option (DataW Unit × List MemPlace)
  get : ∀ c, ok c → ∃ ps, rd (val c) = some (dat c, ps)
  inv : ∀ v y, rd v = some y → ∃ c, ok c ∧ v = val c ∧ y.1 = dat c
  inj : ∀ c d, dat c = dat d → c = d
  zero : β
  zok : ok zero
  zrun : ∀ w, (zeroValue e).run P w = .ok (val zero) w
section
variable {P : Program} {k e : TypeId} {α β : Type}
theorem KT.lit_inj (K : KT P k α) {x y : α} (hx : K.ok x) (hy : K.ok y) (h : K.lit x = K.lit y) : x = y := K.inj _ _ (K.law.inj (K.key x hx) (by rw [h]; exact K.key y hy))
structure View (K : KT P k α) (E : ET P e β) (f : α → Option β) (D : DataW Unit) : Prop where
  has : ∀ x, K.ok x → Maps.has D (K.lit x) = (f x).isSome
  at_ : ∀ x c, f x = some c → E.ok c ∧ ∀ zd, D.atKey (K.lit x) zd = E.dat c
  out : ∀ x c, f x = some c → K.ok x
def MapG (K : KT P k α) (E : ET P e β) (b N : Nat) (f : α → Option β) (w : World) : Prop :=
  ∃ D : DataW Unit, w.ownsMap P k E.rd b N D ∧ Maps.size D = N ∧ View K E f D
variable {K : KT P k α} {E : ET P e β} {b r N : Nat} {f : α → Option β}
theorem own_tight {R : Value → Option (DataW Unit × List MemPlace)} {w : World} {n : Nat} {D : DataW Unit} (h : w.ownsMap P k R b n D) : w.ownsMap P k R b (Maps.size D) D := by
  obtain ⟨es, clock, hb, F, _, rfl⟩ := h
  refine ⟨es, clock, hb, F, ?_, rfl⟩
  rw [Maps.size_eq, length_read]
  exact Nat.le_refl _
theorem rng_tight {R : Value → Option (DataW Unit × List MemPlace)} {w : World} {n : Nat} {D : DataW Unit} {left : Lit → Bool} {cnt : Nat} (h : w.ranges P k R b r n D left cnt) : w.ranges P k R b r (Maps.size D) D left cnt := by
  obtain ⟨es, clock, since, seen, c0, hb, F, hs, rfl, rest⟩ := h
  refine ⟨es, clock, since, seen, c0, hb, F, ?_, rfl, rest⟩
  rw [Maps.size_eq, length_read]
  exact Nat.le_refl _
theorem mapG_made (K : KT P k α) (E : ET P e β) (w : World) : MapG K E w.heap.size 0 (fun _ => none) (w.alloc (.map #[] 0)) :=
  ⟨.map [], World.ownsMap_made w P k _, rfl, ⟨fun _ _ => rfl, (fun _ _ h => by cases h), (fun _ _ h => by cases h)⟩⟩
theorem mapG_lt {w : World} (h : MapG K E b N f w) : b < w.heap.size := by
  obtain ⟨D, h, _⟩ := h
  exact h.lt
theorem mapG_block {w w' : World} (h : MapG K E b N f w) (hb : w'.heap[b]? = w.heap[b]?) : MapG K E b N f w' := by
  obtain ⟨D, ⟨es, clock, h2, h3⟩, h4⟩ := h
  exact ⟨D, ⟨es, clock, hb.trans h2, h3⟩, h4⟩
theorem mapG_ext {w w' : World} (h : MapG K E b N f w) (hE : Ext w w') : MapG K E b N f w' := mapG_block h (ext_block hE (mapG_lt h))
theorem mapG_upd {fp : Nat → Prop} {w w' : World} (h : MapG K E b N f w) (hU : Upd fp w w') (hn : ¬ fp b) : MapG K E b N f w' := mapG_block h (hU.block b (mapG_lt h) hn)
theorem mapG_off {w : World} (h : MapG K E b N f w) {cs : Array Value} {t : TypeId} {fr : Nat × Nat} {g : Nat} (hg : w.heap[g]? = some (.cells cs t fr)) : g ≠ b := fun e => by
  obtain ⟨D, ⟨es, clock, h2, h3⟩, h4⟩ := h
  subst e
  rw [h2] at hg
  cases hg
theorem mapG_cell {w : World} (h : MapG K E b N f w) (o : Nat) : w.cell? ⟨b, o, none⟩ = none := by
  obtain ⟨D, ⟨es, clock, h2, h3⟩, h4⟩ := h
  simp [World.cell?, h2]
theorem mapG_congr {w : World} {f' : α → Option β} {N' : Nat} (h : MapG K E b N f w) (hf : ∀ x, f x = f' x) (hN : N = N') : MapG K E b N' f' w := by
  obtain rfl : f = f' := funext hf
  subst hN
  exact h
theorem mapG_out {w : World} (h : MapG K E b N f w) {x : α} {c : β} (hx : f x = some c) : K.ok x ∧ E.ok c := by
  obtain ⟨D, _, _, hV⟩ := h
  exact ⟨hV.out x c hx, (hV.at_ x c hx).1⟩
theorem mapG_none {w : World} (h : MapG K E b N f w) {x : α} (hx : ¬ K.ok x) : f x = none := by
  cases hc : f x with
  | none => rfl
  | some c => exact absurd (mapG_out h hc).1 hx
theorem isMapG_of_own {R : Value → Option (DataW Unit × List MemPlace)} {w : World} {n : Nat} {D : DataW Unit} (h : w.ownsMap P k R b n D) : Maps.IsMap D := h.isMap
/-- 'm[k]' -/
theorem look_G {t : TypeId} {w : World} (ht : P.underlying t = some (.map k e)) (h : MapG K E b N f w) {x : α} (hx : K.ok x) :
    (Instr.lookup t (.map (some b)) (K.val x) false).run P w = .ok (E.val ((f x).getD E.zero)) w := by
  obtain ⟨D, h1, h2, hV⟩ := h
  obtain ⟨zp, hz⟩ := E.get E.zero E.zok
  obtain ⟨v, ps, hrun, hv⟩ := h1.lookup K.law ht (E.zrun w) hz (K.key x hx)
  obtain ⟨c, _, rfl, hc⟩ := E.inv _ _ hv
  rw [hrun]
  suffices hcc : c = (f x).getD E.zero by rw [hcc]
  refine E.inj _ _ ?_
  rw [← hc]
  cases hf : f x with
  | none =>
    have := hV.has x hx
    rw [hf] at this
    exact Maps.atKey_of_not_has this _
  | some c' => exact (hV.at_ x c' hf).2 _
/-- 'v, ok := m[k]' -/
theorem look2_G {t : TypeId} {w : World} (ht : P.underlying t = some (.map k e)) (h : MapG K E b N f w) {x : α} (hx : K.ok x) :
    (Instr.lookup t (.map (some b)) (K.val x) true).run P w = .ok (.tuple #[E.val ((f x).getD E.zero), .bool (f x).isSome]) w := by
  obtain ⟨D, h1, h2, hV⟩ := h
  obtain ⟨zp, hz⟩ := E.get E.zero E.zok
  obtain ⟨v, ps, hrun, hv⟩ := h1.look_ok K.law ht (E.zrun w) hz (K.key x hx)
  obtain ⟨c, _, rfl, hc⟩ := E.inv _ _ hv
  rw [hrun, hV.has x hx]
  suffices hcc : c = (f x).getD E.zero by rw [hcc]
  refine E.inj _ _ ?_
  rw [← hc]
  cases hf : f x with
  | none =>
    have := hV.has x hx
    rw [hf] at this
    exact Maps.atKey_of_not_has this _
  | some c' => exact (hV.at_ x c' hf).2 _
theorem lookN_G {t : TypeId} {w : World} (K : KT P k α) (E : ET P e β) (c : Bool) (ht : P.underlying t = some (.map k e)) {x : α} (hx : K.ok x) :
    (Instr.lookup t (.map none) (K.val x) c).run P w = .ok (if c then .tuple #[E.val E.zero, .bool false] else E.val E.zero) w := Maps.look_nil c K.law ht (E.zrun w) (K.key x hx)
theorem len_G {t ty : TypeId} {w : World} (ht : P.underlying t = some (.map k e)) (h : MapG K E b N f w) : (Builtin.len_ #[t] ty #[.map (some b)]).run P w = .ok (.int .i64 (N : Int)) w := by
  obtain ⟨D, h1, h2, hV⟩ := h
  rw [h1.len ht ty, h2]
variable [DecidableEq α]
theorem view_put {D : DataW Unit} (hm : Maps.IsMap D) (hV : View K E f D) {x : α} (hx : K.ok x) {c : β} (hc : E.ok c) : View K E (fun y => if y = x then some c else f y) (D.put (K.lit x) (E.dat c)) := by
  have hk := K.law.key (K.key x hx)
  refine ⟨fun y hy => ?_, fun y d hd => ?_, fun y d hd => ?_⟩
  · by_cases e : y = x
    · subst e; rw [if_pos rfl]; exact Maps.has_put_same hm hk _
    · rw [if_neg e, Maps.has_put_other (fun h => e (K.lit_inj hy hx h)), hV.has y hy]
  · by_cases e : y = x
    · subst e
      rw [if_pos rfl] at hd
      cases hd
      exact ⟨hc, fun zd => Maps.atKey_put_same hm hk _ _⟩
    · rw [if_neg e] at hd
      refine ⟨(hV.at_ y d hd).1, fun zd => ?_⟩
      rw [Maps.atKey_put_other (fun h => e (K.lit_inj (hV.out y d hd) hx h))]
      exact (hV.at_ y d hd).2 zd
  · by_cases e : y = x
    · subst e; exact hx
    · rw [if_neg e] at hd; exact hV.out y d hd
theorem view_del {D : DataW Unit} (hV : View K E f D) {x : α} (hx : K.ok x) : View K E (fun y => if y = x then none else f y) (D.del (K.lit x)) := by
  refine ⟨fun y hy => ?_, fun y d hd => ?_, fun y d hd => ?_⟩
  · by_cases e : y = x
    · subst e; rw [if_pos rfl]; exact Maps.has_del_same
    · rw [if_neg e, Maps.has_del_other (fun h => e (K.lit_inj hy hx h)), hV.has y hy]
  · by_cases e : y = x
    · subst e; rw [if_pos rfl] at hd; cases hd
    · rw [if_neg e] at hd
      refine ⟨(hV.at_ y d hd).1, fun zd => ?_⟩
      rw [Maps.atKey_del_other (fun h => e (K.lit_inj (hV.out y d hd) hx h))]
      exact (hV.at_ y d hd).2 zd
  · by_cases e : y = x
    · subst e; rw [if_pos rfl] at hd; cases hd
    · rw [if_neg e] at hd; exact hV.out y d hd
/-- 'm[k] = v' -/
theorem store_G {t : TypeId} {w : World} (ht : P.underlying t = some (.map k e)) (h : MapG K E b N f w) (hN : N < maxLen) {x : α} (hx : K.ok x) {c : β} (hc : E.ok c) :
    ∃ w', (Instr.mapUpdate t (.map (some b)) (K.val x) (E.val c)).run P w = .ok () w' ∧ MapG K E b (if (f x).isSome then N else N + 1) (fun y => if y = x then some c else f y) w' ∧ w.grownBy w' (some b) := by
  obtain ⟨D, h1, h2, hV⟩ := h
  obtain ⟨ps, hg⟩ := E.get c hc
  obtain ⟨w', hrun, h5, h6⟩ := h1.update K.law ht hN (K.key x hx) hg
  have hs : Maps.size (D.put (K.lit x) (E.dat c)) = if (f x).isSome then N else N + 1 := by
    rw [Maps.size_put (h1.tidy K.law), hV.has x hx, h2]
  refine ⟨w', hrun, ⟨_, ?_, hs, view_put h1.isMap hV hx hc⟩, h6⟩
  rw [← hs]
  exact own_tight h5
/-- 'delete(m, k)' -/
theorem drop_G {t ty : TypeId} {w : World} (ht : P.underlying t = some (.map k e)) (h : MapG K E b N f w) {x : α} (hx : K.ok x) :
    ∃ w', (Builtin.delete_ #[t, k] ty #[.map (some b), K.val x]).run P w = .ok (.tuple #[]) w' ∧ MapG K E b (if (f x).isSome then N - 1 else N) (fun y => if y = x then none else f y) w' ∧ w.grownBy w' (some b) := by
  obtain ⟨D, h1, h2, hV⟩ := h
  obtain ⟨w', hrun, h5, h6⟩ := h1.drop K.law ht (K.key x hx) ty
  have hs : Maps.size (D.del (K.lit x)) = if (f x).isSome then N - 1 else N := by
    have := Maps.size_del (k := K.lit x) (h1.tidy K.law)
    rw [hV.has x hx, h2] at this
    cases hf : (f x).isSome <;> rw [hf] at this <;> simp at this ⊢ <;> omega
  refine ⟨w', hrun, ⟨_, ?_, hs, view_del hV hx⟩, h6.grown⟩
  rw [← hs]
  exact own_tight h5
omit [DecidableEq α] in
/-- how many keys there are -/
theorem mapG_keys {w : World} (h : MapG K E b N f w) : ∃ L : List α, L.Nodup ∧ (∀ x, x ∈ L ↔ (f x).isSome = true) ∧ L.length = N := by
  obtain ⟨D, h1, h2, hV⟩ := h
  obtain ⟨es0, hD0, hap, -⟩ := h1.entries K.law
  have hlit : ∀ p ∈ es0, ∃ x, K.ok x ∧ p.1 = K.lit x := by
    obtain ⟨es, clock, hb, F, hs, hD⟩ := h1
    rw [hD0] at hD
    simp only [DataW.map.injEq] at hD
    intro p hp
    rw [hD] at hp
    obtain ⟨y, hy, rfl⟩ := List.mem_map.1 (mem_sorted.1 hp)
    obtain ⟨z, hz⟩ := F.reads y hy
    have hk := Go.WideElems.rd_key hz
    obtain ⟨x, hx, e1⟩ := K.inv _ _ hk
    refine ⟨x, hx, ?_⟩
    rw [Go.WideElems.rg_of hz]
    rw [e1, K.key x hx] at hk
    exact (Option.some.inj hk).symm
  have hL : ∀ es1 : List (Lit × DataW Unit), (∀ p ∈ es1, ∃ x, K.ok x ∧ p.1 = K.lit x) → es1.Pairwise (fun p q => p.1 ≠ q.1) → ∃ L : List α, L.Nodup ∧ (∀ x, x ∈ L ↔ K.ok x ∧ ∃ p ∈ es1, p.1 = K.lit x) ∧ L.length = es1.length := by
    intro es1
    induction es1 with
    | nil => intro _ _; exact ⟨[], List.nodup_nil, fun x => by simp, rfl⟩
    | cons p es1 ih =>
      intro hl hp
      obtain ⟨hp1, hp2⟩ := List.pairwise_cons.1 hp
      obtain ⟨L, l1, l2, l3⟩ := ih (fun q hq => hl q (List.mem_cons_of_mem _ hq)) hp2
      obtain ⟨x, hx, hpx⟩ := hl p (List.mem_cons_self ..)
      refine ⟨x :: L, List.nodup_cons.2 ⟨fun hm => ?_, l1⟩, fun y => ?_, by simp [l3]⟩
      · obtain ⟨_, q, hq, e1⟩ := (l2 x).1 hm
        exact hp1 q hq (hpx.trans e1.symm)
      · rw [List.mem_cons, l2 y]
        constructor
        · rintro (rfl | ⟨hy, q, hq, e1⟩)
          · exact ⟨hx, p, List.mem_cons_self .., hpx⟩
          · exact ⟨hy, q, List.mem_cons_of_mem _ hq, e1⟩
        · rintro ⟨hy, q, hq, e1⟩
          rcases List.mem_cons.1 hq with rfl | hq
          · exact .inl (K.lit_inj hy hx (e1.symm.trans hpx))
          · exact .inr ⟨hy, q, hq, e1⟩
  obtain ⟨L, l1, l2, l3⟩ := hL es0 hlit hap
  refine ⟨L, l1, fun x => ?_, ?_⟩
  · rw [l2 x]
    constructor
    · rintro ⟨hx, p, hp, e1⟩
      rw [← hV.has x hx, hD0]
      exact List.any_eq_true.2 ⟨p, hp, by rw [e1]; exact WideAt.sameKey_self (K.law.key (K.key x hx))⟩
    · intro hx
      obtain ⟨c, hc⟩ := Option.isSome_iff_exists.1 hx
      have hok := hV.out x c hc
      rw [← hV.has x hok, hD0] at hx
      obtain ⟨p, hp, hpk⟩ := List.any_eq_true.1 hx
      exact ⟨hok, p, hp, WideAt.sameKey_eq hpk⟩
  · rw [l3, ← h2, hD0]
    rfl
theorem nodup_same : ∀ {L M : List α}, L.Nodup → M.Nodup → (∀ x, x ∈ L ↔ x ∈ M) → L.length = M.length
  | [], M, _, _, h => by
    cases M with
    | nil => rfl
    | cons y M => exact absurd ((h y).2 (List.mem_cons_self ..)) (by simp)
  | x :: L, M, hL, hM, h => by
    obtain ⟨h1, h2⟩ := List.nodup_cons.1 hL
    have hx : x ∈ M := (h x).1 (List.mem_cons_self ..)
    have := nodup_same h2 (hM.erase x) (fun y => by
      rw [List.Nodup.mem_erase_iff hM]
      constructor
      · intro hy
        exact ⟨fun e => h1 (e ▸ hy), (h y).1 (List.mem_cons_of_mem _ hy)⟩
      · rintro ⟨hne, hy⟩
        rcases List.mem_cons.1 ((h y).2 hy) with rfl | hy'
        · exact absurd rfl hne
        · exact hy')
    rw [List.length_cons, this, List.length_erase_of_mem hx]
    have := List.length_pos_of_mem hx
    omega
theorem mapG_card {w : World} (h : MapG K E b N f w) {L : List α} (hL : L.Nodup) (hm : ∀ x, x ∈ L ↔ (f x).isSome = true) : L.length = N := by
  obtain ⟨M, m1, m2, m3⟩ := mapG_keys h
  rw [← m3]
  exact nodup_same hL m1 (fun x => by rw [hm x, m2 x])

/-- a loop over a map: which keys have come -/
def RngG (K : KT P k α) (E : ET P e β) (b r N : Nat) (f : α → Option β) (done : List α) (w : World) : Prop :=
  ∃ (D : DataW Unit) (left : Lit → Bool) (cnt : Nat), w.ranges P k E.rd b r N D left cnt ∧ Maps.size D = N ∧ View K E f D ∧ done.Nodup ∧ ∀ x, K.ok x → left (K.lit x) = ((f x).isSome && !decide (x ∈ done))
variable {done : List α}
theorem rngG_map {w : World} (h : RngG K E b r N f done w) : MapG K E b N f w := by
  obtain ⟨D, left, cnt, h1, h2, h3, _⟩ := h
  exact ⟨D, h1.owns, h2, h3⟩
theorem rngG_nodup {w : World} (h : RngG K E b r N f done w) : done.Nodup := by
  obtain ⟨D, left, cnt, h1, h2, h3, h4, _⟩ := h
  exact h4
theorem rngG_lt {w : World} (h : RngG K E b r N f done w) : r < w.heap.size := by
  obtain ⟨D, left, cnt, h1, _⟩ := h
  exact h1.lt
theorem rngG_ne {w : World} (h : RngG K E b r N f done w) : r ≠ b := by
  obtain ⟨D, left, cnt, h1, _⟩ := h
  exact h1.ne
theorem rngG_block {w w' : World} (h : RngG K E b r N f done w) (hb : w'.heap[b]? = w.heap[b]?) (hr : w'.heap[r]? = w.heap[r]?) : RngG K E b r N f done w' := by
  obtain ⟨D, left, cnt, ⟨es, clock, since, seen, c0, k1, k2, k3, k4, k5, k6⟩, h2⟩ := h
  exact ⟨D, left, cnt, ⟨es, clock, since, seen, c0, hb.trans k1, k2, k3, k4, hr.trans k5, k6⟩, h2⟩
theorem rngG_ext {w w' : World} (h : RngG K E b r N f done w) (hE : Ext w w') : RngG K E b r N f done w' := rngG_block h (ext_block hE (mapG_lt (rngG_map h))) (ext_block hE (rngG_lt h))
theorem rngG_upd {fp : Nat → Prop} {w w' : World} (h : RngG K E b r N f done w) (hU : Upd fp w w') (hb : ¬ fp b) (hr : ¬ fp r) : RngG K E b r N f done w' := rngG_block h (hU.block b (mapG_lt (rngG_map h)) hb) (hU.block r (rngG_lt h) hr)
theorem rngG_off {w : World} (h : RngG K E b r N f done w) {cs : Array Value} {t : TypeId} {fr : Nat × Nat} {g : Nat} (hg : w.heap[g]? = some (.cells cs t fr)) : g ≠ b ∧ g ≠ r := by
  obtain ⟨D, left, cnt, ⟨es, clock, since, seen, c0, k1, k2, k3, k4, k5, k6⟩, h2⟩ := h
  refine ⟨fun e => ?_, fun e => ?_⟩
  · rw [e, k1] at hg; cases hg
  · rw [e, k5] at hg; cases hg
omit [DecidableEq α] in
theorem left_block {w w' : World} (hb : w'.heap[b]? = w.heap[b]?) (hr : w'.heap[r]? = w.heap[r]?) : w'.rangeLeft b r = w.rangeLeft b r := by
  unfold World.rangeLeft
  rw [hb, hr]
theorem left_upd {fp : Nat → Prop} {w w' : World} (h : RngG K E b r N f done w) (hU : Upd fp w w') (hb : ¬ fp b) (hr : ¬ fp r) : w'.rangeLeft b r = w.rangeLeft b r := left_block (hU.block b (mapG_lt (rngG_map h)) hb) (hU.block r (rngG_lt h) hr)
theorem left_ext {w w' : World} (h : RngG K E b r N f done w) (hE : Ext w w') : w'.rangeLeft b r = w.rangeLeft b r := left_block (ext_block hE (mapG_lt (rngG_map h))) (ext_block hE (rngG_lt h))
section
variable (w : World) {ops : Array Oper} {rest : List Oper} {o : Oper} {a : Act} {Q : Exit → Act → World → Prop}
/-- 'range m' -/
theorem wpList_range_G (hg : o.guard = none) (m : Operand) (t : TypeId) (hop : o.op = Op.range t m) (ht : P.underlying t = some (.map k e)) (hm : a.eval m = .map (some b)) (h : MapG K E b N f w)
    (hK : ∀ w' r, r = w.heap.size → RngG K E b r N f [] w' → Ext w w' → w'.heap.size = w.heap.size + 1 → wpList P ops Q rest (a.put o.dst (.pointer (some ⟨r, 0, none⟩))) w') : wpList P ops Q (o :: rest) a w := by
  obtain ⟨D, h1, h2, hV⟩ := h
  refine wpList_range_own w hg m t hop k e K.law ht E.rd b N D hm h1 (fun w' h3 h4 h5 => hK w' _ rfl ⟨D, _, _, h3, h2, hV, List.nodup_nil, fun x hx => ?_⟩ ⟨h4.os, h4.tape, h4.output, h4.size, fun i hi => h4.block i hi (by simp)⟩ h5)
  rw [hV.has x hx]
  simp
/-- the step -/
theorem wpList_next_G (hg : o.guard = none) (it : Operand) (hop : o.op = Op.next it false) (hit : a.eval it = .pointer (some ⟨r, 0, none⟩)) (h : RngG K E b r N f done w)
    (hDone : (∀ x, (f x).isSome = true → x ∈ done) → wpList P ops Q rest (a.put o.dst (.tuple #[.bool false])) w)
    (hMore : ∀ (x : α) (c : β) (w' : World), f x = some c → x ∉ done → RngG K E b r N f (done ++ [x]) w' → w'.rangeLeft b r < w.rangeLeft b r → w.grownBy w' (some r) → w'.heap.size = w.heap.size →
      (Instr.entry (.pointer (some ⟨r, 0, none⟩))).run P w' = .ok (.tuple #[K.val x, E.val c]) w' → wpList P ops Q rest (a.put o.dst (.tuple #[.bool true, K.val x, E.val c])) w') : wpList P ops Q (o :: rest) a w := by
  obtain ⟨D, left, cnt, h1, h2, hV, hnd, hl⟩ := h
  refine wpList_plain hg fun K' hK' => ?_
  unfold Oper.wp
  rcases h1.next K.law o.type with ⟨h0, hlf, hrun⟩ | ⟨key, v, kl, y, w', cnt', hkey, hlk, hv, hat, hrun, hrg, hlt, hgr, hsz, hen⟩
  · simp [execOp, hop, hit, hrun, Result.andThen]
    refine hK' _ _ (hDone (fun x hx => ?_))
    obtain ⟨c, hc⟩ := Option.isSome_iff_exists.1 hx
    have h5 := hl x (hV.out x c hc)
    rw [hlf, hx] at h5
    simpa using h5.symm
  · obtain ⟨x, hx, rfl⟩ := K.inv _ _ hkey
    obtain ⟨c, hc, rfl, hyc⟩ := E.inv _ _ hv
    have ekl : kl = K.lit x := by rw [K.key x hx] at hkey; exact (Option.some.inj hkey).symm
    subst ekl
    have h5 := hl x hx
    rw [hlk] at h5
    have h6 : (f x).isSome = true ∧ x ∉ done := by simpa using h5.symm
    obtain ⟨c', hc'⟩ := Option.isSome_iff_exists.1 h6.1
    have hcc : c' = c := E.inj _ _ (by rw [← (hV.at_ x c' hc').2 (.map []), hat, hyc])
    subst hcc
    simp [execOp, hop, hit, hrun, Result.andThen]
    refine hK' _ _ (hMore x c' w' hc' h6.2 ⟨D, _, cnt', hrg, h2, hV, ?_, fun y hy => ?_⟩ (by rw [hrg.left_eq, h1.left_eq]; exact hlt) hgr hsz hen)
    · exact List.nodup_append.2 ⟨hnd, (List.nodup_cons.2 ⟨by simp, List.nodup_nil⟩), fun a ha b hb => by rw [List.mem_singleton.1 hb]; exact fun e1 => h6.2 (e1 ▸ ha)⟩
    · rw [hl y hy]
      by_cases e1 : y = x
      · subst e1
        rw [WideAt.sameKey_self (K.law.key (K.key y hy))]
        simp
      · rw [Maps.sameKey_ne (fun e2 => e1 (K.lit_inj hy hx e2))]
        simp [e1]
theorem wpList_store_G (hg : o.guard = none) (m x v : Operand) (t : TypeId) (hop : o.op = Op.mapUpdate t m x v) (ht : P.underlying t = some (.map k e)) (hm : a.eval m = .map (some b)) (h : MapG K E b N f w) (hN : N < maxLen)
    (y : α) (hx : a.eval x = K.val y) (hy : K.ok y) (c : β) (hv : a.eval v = E.val c) (hc : E.ok c)
    (hK : ∀ w', MapG K E b (if (f y).isSome then N else N + 1) (fun z => if z = y then some c else f z) w' → w.grownBy w' (some b) → wpList P ops Q rest (a.put o.dst undef) w') : wpList P ops Q (o :: rest) a w := by
  refine wpList_plain hg fun K' hK' => ?_
  obtain ⟨w', hrun, r1, r2⟩ := store_G ht h hN hy hc
  unfold Oper.wp
  simp [execOp, hop, hm, hx, hv, hrun, Result.andThen]
  exact hK' _ _ (hK w' r1 r2)
theorem wpList_drop_G (hg : o.guard = none) (m x : Operand) (t : TypeId) (hop : o.op = Op.call { callee := Callee.builtin Builtin.delete, args := #[m, x], argTypes := #[t, k] }) (ht : P.underlying t = some (.map k e)) (hm : a.eval m = .map (some b)) (h : MapG K E b N f w)
    (y : α) (hx : a.eval x = K.val y) (hy : K.ok y)
    (hK : ∀ w', MapG K E b (if (f y).isSome then N - 1 else N) (fun z => if z = y then none else f z) w' → w.grownBy w' (some b) → wpList P ops Q rest (a.put o.dst (.tuple #[])) w') : wpList P ops Q (o :: rest) a w := by
  refine wpList_plain hg fun K' hK' => ?_
  obtain ⟨w', hrun, r1, r2⟩ := drop_G (ty := o.type) ht h hy
  unfold Oper.wp
  simp [execOp, hop, resolve, invoke, builtin, hm, hx, hrun, Result.andThen]
  exact hK' _ _ (hK w' r1 r2)
/-- 'delete(m, k)' in the round, of a key that has come -/
theorem wpList_dropR_G (hg : o.guard = none) (m x : Operand) (t : TypeId) (hop : o.op = Op.call { callee := Callee.builtin Builtin.delete, args := #[m, x], argTypes := #[t, k] }) (ht : P.underlying t = some (.map k e)) (hm : a.eval m = .map (some b)) (h : RngG K E b r N f done w)
    (y : α) (hx : a.eval x = K.val y) (hy : K.ok y) (hd : y ∈ done)
    (hK : ∀ w', RngG K E b r (if (f y).isSome then N - 1 else N) (fun z => if z = y then none else f z) done w' → w'.rangeLeft b r ≤ w.rangeLeft b r → w.grownBy w' (some b) → wpList P ops Q rest (a.put o.dst (.tuple #[])) w') : wpList P ops Q (o :: rest) a w := by
  obtain ⟨D, left, cnt, h1, h2, hV, hnd, hl⟩ := h
  refine wpList_delete_ranges w hg m x t k hop e K.law ht E.rd b r N D left cnt hm h1 (K.val y) (K.lit y) hx (K.key y hy) (fun w' cnt' h3 h4 h5 => ?_)
  have hs : Maps.size (D.del (K.lit y)) = if (f y).isSome then N - 1 else N := by
    have := Maps.size_del (k := K.lit y) (h1.owns.tidy K.law)
    rw [hV.has y hy, h2] at this
    cases hf : (f y).isSome <;> rw [hf] at this <;> simp at this ⊢ <;> omega
  refine hK w' ⟨_, _, cnt', by rw [← hs]; exact rng_tight h3, hs, view_del hV hy, hnd, fun z hz => ?_⟩ (by rw [h3.left_eq, h1.left_eq]; exact h4) h5.grown
  rw [hl z hz]
  by_cases e1 : z = y
  · subst e1
    rw [WideAt.sameKey_self (K.law.key (K.key z hz))]
    simp
  · rw [Maps.sameKey_ne (fun e2 => e1 (K.lit_inj hz hy e2))]
    simp [e1]
end
end
end Go.Proofs.Ytiabmdboacpmcaa
