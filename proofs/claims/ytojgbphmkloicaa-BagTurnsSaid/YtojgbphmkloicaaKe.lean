/- 'm[k]++': the entry is found, or laid, and then written. -/
import Derived.Test.YtojgbphmkloicaaKm
namespace Go.Proofs.Ytojgbphmkloicaa
open Go Go.RowKit Go.Sort Go.WideMaps Go.Maps
open Go.ChangeMaps (setBlock heap_setBlock_same heap_setBlock_other modify_eq_set)
open Go.WideElems (Fit other_key)

section
variable {P : Program} {k e t : TypeId} {R : Value → Option (DataW Unit × List MemPlace)} {w : World} {b clock : Nat} {es : Array MapEntry}
theorem modify_same {es : Array MapEntry} {j : Nat} {e0 : MapEntry} (h : es[j]? = some e0) {f g : MapEntry → MapEntry} (hfg : f e0 = g e0) : es.modify j f = es.modify j g := by
  have h' : es.toList[j]? = some e0 := by simpa using h
  have h1 : (es.modify j f).toList = (es.modify j g).toList := by
    rw [Array.toList_modify, Array.toList_modify, modify_eq_set _ _ _ _ h', modify_eq_set _ _ _ _ h', hfg]
  rw [← Array.toArray_toList (xs := es.modify j f), h1, Array.toArray_toList]
theorem modify_at {es : Array MapEntry} {j : Nat} {e0 : MapEntry} (h : es[j]? = some e0) (f : MapEntry → MapEntry) : (es.modify j f)[j]? = some (f e0) := by
  rw [Array.getElem?_modify, if_pos rfl, h]
  rfl
/-- an entry that lies in a map's block -/
def EntAt (b : Nat) (key : Value) (born : Nat) (w : World) : Prop := ∃ (es : Array MapEntry) (clock j : Nat) (v : Value), w.heap[b]? = some (.map es clock) ∧ es[j]? = some (⟨key, v, born⟩ : MapEntry)
theorem entry_run {z key : Value} {kl : Lit} (K : Keyed P k) (ht : P.underlying t = some (.map k e)) (hz : (zeroValue e).run P w = .ok z w) (hb : w.heap[b]? = some (.map es clock)) (F : Fit P k R es clock) (hkey : keyOf P k key = some kl) :
    ∃ v born w1, (Instr.mapEntry t (.map (some b)) key).run P w = .ok (.tuple #[v, .int .i64 ((born : Nat) : Int)]) w1 ∧ (Instr.mapUpdate t (.map (some b)) key v).run P w = .ok () w1 ∧ (Instr.lookup t (.map (some b)) key false).run P w = .ok v w ∧ EntAt b key born w1 := by
  rcases K.find w hkey es.toList F.keys with ⟨h1, h2⟩ | ⟨j, e0, h1, h2, h3⟩
  · refine ⟨z, clock, setBlock w b (.map (es.push ⟨key, z, clock⟩) (clock + 1)), ?_, ?_, ?_, es.push ⟨key, z, clock⟩, clock + 1, es.size, z, heap_setBlock_same hb _, by simp⟩
    · simp [Instr.mapEntry, run_underlying ht, Go.MapKept.run_getObj_map hb, K.check w false hkey, h1, hz, Go.MapKept.run_setObj_map _ hb, Result.andThen, setBlock, goInt]
    · simp [Instr.mapUpdate, run_underlying ht, Go.MapKept.run_getObj_map hb, K.check w false hkey, h1, Go.MapKept.run_setObj_map _ hb, Result.andThen, setBlock]
    · rcases Maps.fit_look false K ht hz hb F hkey with ⟨hrun, _, _⟩ | ⟨e1, y, he1, hk1, hrun, _⟩
      · exact hrun
      · exact absurd hk1 (h2 e1 he1)
  · have hj : es[j]? = some e0 := by simpa using h2
    refine ⟨e0.val, e0.born, setBlock w b (.map (es.modify j fun e => { e with key := key }) clock), ?_, ?_, ?_, es.modify j (fun e => { e with key := key }), clock, j, e0.val, heap_setBlock_same hb _, modify_at hj _⟩
    · simp [Instr.mapEntry, run_underlying ht, Go.MapKept.run_getObj_map hb, K.check w false hkey, h1, hj, h3, K.stays w hkey, Go.MapKept.run_setObj_map _ hb, Result.andThen, setBlock, goInt]
    · rw [modify_same hj (f := fun e => { e with key := key }) (g := fun e => { e with key := key, val := e0.val }) rfl]
      simp [Instr.mapUpdate, run_underlying ht, Go.MapKept.run_getObj_map hb, K.check w false hkey, h1, hj, h3, K.stays w hkey, Go.MapKept.run_setObj_map _ hb, Result.andThen, setBlock]
    · rcases Maps.fit_look false K ht hz hb F hkey with ⟨hrun, hno, _⟩ | ⟨e1, y, he1, hk1, hrun, _⟩
      · exact absurd h3 (hno e0 (List.mem_of_getElem? h2))
      · have : e1 = e0 := entry_eq_of_key ((Go.MapKept.stamped_iff es clock).1 F.stamped).2.2 he1 (List.mem_of_getElem? h2) (hk1.trans h3.symm)
        rw [← this]
        exact hrun
theorem entStore_run {ty : TypeId} {key val : Value} {kl : Lit} {born : Nat} (K : Keyed P k) (ht : P.underlying t = some (.map k e)) (hb : w.heap[b]? = some (.map es clock)) (F : Fit P k R es clock) (hkey : keyOf P k key = some kl) (hE : EntAt b key born w) :
    (Instr.entryStore ty (.map (some b)) (.int .i64 (born : Int)) val).run P w = (Instr.mapUpdate t (.map (some b)) key val).run P w := by
  obtain ⟨es', clock', j, v, hb', hj⟩ := hE
  rw [hb] at hb'
  simp only [Option.some.injEq, Obj.map.injEq] at hb'
  obtain ⟨rfl, rfl⟩ := hb'
  have hst := (Go.MapKept.stamped_iff es clock).1 F.stamped
  have hjl : es.toList[j]? = some ⟨key, v, born⟩ := by simpa using hj
  have hx : ∃ i, es.findIdx? (fun e => ((e.born : Int) == (born : Int))) = some i ∧ es[i]? = some ⟨key, v, born⟩ := by
    cases hf : es.findIdx? (fun e => ((e.born : Int) == (born : Int))) with
    | none =>
      exfalso
      have h1 := Array.findIdx?_eq_none_iff.1 hf ⟨key, v, born⟩ (Array.mem_toList_iff.1 (List.mem_of_getElem? hjl))
      simp at h1
    | some i =>
      refine ⟨i, rfl, ?_⟩
      obtain ⟨hi, h1, _⟩ := Array.findIdx?_eq_some_iff_getElem.1 hf
      have h2 : es[i].born = born := by
        have h4 : ((es[i].born : Nat) : Int) = (born : Int) := by simpa using h1
        omega
      have h3 : es[i] = ⟨key, v, born⟩ := born_inj hst.2.1 (Array.mem_toList_iff.2 (Array.getElem_mem hi)) (List.mem_of_getElem? hjl) h2
      rw [Array.getElem?_eq_getElem hi, h3]
  obtain ⟨i, hf, hi⟩ := hx
  rcases K.find w hkey es.toList F.keys with ⟨h1, h2⟩ | ⟨j', e0, h1, h2, h3⟩
  · exact absurd rfl (h2 _ (List.mem_of_getElem? hjl))
  · have hj' : es[j']? = some e0 := by simpa using h2
    have he0 : e0 = ⟨key, v, born⟩ := entry_eq_of_key hst.2.2 (List.mem_of_getElem? h2) (List.mem_of_getElem? hjl) h3
    have hij : i = j' := by
      refine Classical.byContradiction fun hne => ?_
      have hi' : es.toList[i]? = some ⟨key, v, born⟩ := by simpa using hi
      have := other_key F h2 hi' hne
      rw [h3] at this
      exact this rfl
    subst hij
    rw [he0] at hj' h3 h1
    have e1 : (Instr.entryStore ty (.map (some b)) (.int .i64 (born : Int)) val).run P w = .ok () (setBlock w b (.map (es.modify i fun e => { e with val := val }) clock)) := by
      simp [Instr.entryStore, Go.MapKept.run_getObj_map hb, asInt, asIntOf, hf, Go.MapKept.run_setObj_map _ hb, Result.andThen, setBlock]
    rw [e1, modify_same hj' (f := fun e => { e with val := val }) (g := fun e => { e with key := key, val := val }) rfl]
    simp [Instr.mapUpdate, run_underlying ht, Go.MapKept.run_getObj_map hb, K.check w false hkey, h1, hj', K.stays w hkey, Go.MapKept.run_setObj_map _ hb, Result.andThen, setBlock]
end
section
variable {P : Program} {k e : TypeId} {α β : Type} {K : KT P k α} {E : ET P e β} {b N : Nat} {f : α → Option β} [DecidableEq α] {t : TypeId} {w : World}
theorem entry_G (ht : P.underlying t = some (.map k e)) (h : MapG K E b N f w) (hN : N < maxLen) {x : α} (hx : K.ok x) (hc : E.ok ((f x).getD E.zero)) :
    ∃ born w1, (Instr.mapEntry t (.map (some b)) (K.val x)).run P w = .ok (.tuple #[E.val ((f x).getD E.zero), .int .i64 ((born : Nat) : Int)]) w1 ∧ MapG K E b (if (f x).isSome then N else N + 1) (fun y => if y = x then some ((f x).getD E.zero) else f y) w1 ∧ EntAt b (K.val x) born w1 ∧ w.grownBy w1 (some b) := by
  have h' := h
  obtain ⟨D, ⟨es, clock, hb, F, _, _⟩, _, _⟩ := h'
  obtain ⟨v, born, w1, h1, h2, h3, h4⟩ := entry_run K.law ht (E.zrun w) hb F (K.key x hx)
  have hl := look_G ht h hx
  rw [h3] at hl
  have hv : v = E.val ((f x).getD E.zero) := by simpa using hl
  subst hv
  obtain ⟨w', h5, h6, h7⟩ := store_G ht h hN hx hc
  rw [h2] at h5
  have hw : w1 = w' := by simpa using h5
  subst hw
  exact ⟨born, w1, h1, h6, h4, h7⟩
theorem entStore_G {ty : TypeId} (ht : P.underlying t = some (.map k e)) (h : MapG K E b N f w) (hN : N < maxLen) {x : α} (hx : K.ok x) {born : Nat} (hE : EntAt b (K.val x) born w) {c : β} (hc : E.ok c) :
    ∃ w', (Instr.entryStore ty (.map (some b)) (.int .i64 (born : Int)) (E.val c)).run P w = .ok () w' ∧ MapG K E b (if (f x).isSome then N else N + 1) (fun y => if y = x then some c else f y) w' ∧ w.grownBy w' (some b) := by
  have h' := h
  obtain ⟨D, ⟨es, clock, hb, F, _, _⟩, _, _⟩ := h'
  rw [entStore_run (val := E.val c) (ty := ty) K.law ht hb F (K.key x hx) hE]
  exact store_G ht h hN hx hc
omit [DecidableEq α] in
theorem entAt_block {key : Value} {born : Nat} {w w' : World} (h : EntAt b key born w) (hb : w'.heap[b]? = w.heap[b]?) : EntAt b key born w' := by
  obtain ⟨es, clock, j, v, h1, h2⟩ := h
  exact ⟨es, clock, j, v, hb.trans h1, h2⟩
theorem wpList_entStore_G {ops : Array Oper} {rest : List Oper} {o : Oper} {a : Act} {Q : Exit → Act → World → Prop} (hg : o.guard = none) (m s v : Operand) (ty : TypeId) (hop : o.op = Op.entryStore ty m s v) (ht : P.underlying t = some (.map k e)) (hm : a.eval m = .map (some b)) (h : MapG K E b N f w) (hN : N < maxLen)
    (y : α) (hy : K.ok y) (born : Nat) (hs : a.eval s = .int .i64 (born : Int)) (hE : EntAt b (K.val y) born w) (c : β) (hv : a.eval v = E.val c) (hc : E.ok c)
    (hK : ∀ w', MapG K E b (if (f y).isSome then N else N + 1) (fun z => if z = y then some c else f z) w' → w.grownBy w' (some b) → wpList P ops Q rest (a.put o.dst undef) w') : wpList P ops Q (o :: rest) a w := by
  refine wpList_plain hg fun K' hK' => ?_
  obtain ⟨w', hrun, r1, r2⟩ := entStore_G (ty := ty) ht h hN hy hE hc
  unfold Oper.wp
  simp [execOp, hop, hm, hs, hv, hrun, Result.andThen]
  exact hK' _ _ (hK w' r1 r2)
theorem runs_entry_G {o : Oper} {a : Act} {R : Value → World → Prop} (m x : Operand) (hop : o.op = Op.mapEntry t m x) (ht : P.underlying t = some (.map k e)) (hm : a.eval m = .map (some b)) (h : MapG K E b N f w) (hN : N < maxLen) {y : α} (hx : a.eval x = K.val y) (hy : K.ok y) (hc : E.ok ((f y).getD E.zero))
    (hR : ∀ born w1, MapG K E b (if (f y).isSome then N else N + 1) (fun z => if z = y then some ((f y).getD E.zero) else f z) w1 → EntAt b (K.val y) born w1 → w.grownBy w1 (some b) → R (.tuple #[E.val ((f y).getD E.zero), .int .i64 ((born : Nat) : Int)]) w1) : runsAt P o a R w := by
  obtain ⟨born, w1, h1, h2, h3, h4⟩ := entry_G ht h hN hy hc
  unfold runsAt
  simp [execOp, hop, hm, hx, h1, Result.andThen]
  exact hR born w1 h2 h3 h4
end
end Go.Proofs.Ytojgbphmkloicaa
