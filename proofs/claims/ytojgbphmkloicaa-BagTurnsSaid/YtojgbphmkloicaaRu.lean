/- What has turned in memory; copy, clear and append on rows. -/
import Derived.Test.YtojgbphmkloicaaFree
import Derived.Laws.CopyOwn
import Derived.Lib.AppendZerosOnto
import Derived.Lib.SliceRun
import Derived.OwnWalk
import Derived.Lib.Hide
namespace Go.Proofs.Ytojgbphmkloicaa
open Go Go.RowKit Go.Sort

/-- Of what was there only blocks of fp have turned; blocks may have been made. -/
structure Upd (fp : Nat → Prop) (w w' : World) : Prop where
  os : w'.os = w.os
  tape : w'.tape = w.tape
  output : w'.output = w.output
  size : w.heap.size ≤ w'.heap.size
  block : ∀ k, k < w.heap.size → ¬ fp k → w'.heap[k]? = w.heap[k]?

theorem upd_of_ext {fp : Nat → Prop} {w w' : World} (h : Ext w w') : Upd fp w w' := ⟨Below.os h, Below.tape h, Below.output h, Below.size h, fun k hk _ => Below.block h k hk⟩
theorem ext_of_upd {w w' : World} (h : Upd (fun _ => False) w w') : Ext w w' := ⟨h.os, h.tape, h.output, h.size, fun k hk => h.block k hk (fun h => h)⟩
theorem upd_refl {fp : Nat → Prop} {w : World} : Upd fp w w := upd_of_ext (ext_refl _)
theorem upd_trans {fp fp' : Nat → Prop} {a b c : World} (h : Upd fp a b) (k : Upd fp' b c) (hf : ∀ i, i < a.heap.size → fp' i → fp i) : Upd fp a c :=
  ⟨k.os.trans h.os, k.tape.trans h.tape, k.output.trans h.output, Nat.le_trans h.size k.size, fun i hi hn => (k.block i (Nat.lt_of_lt_of_le hi h.size) (fun hh => hn (hf i hi hh))).trans (h.block i hi hn)⟩
theorem upd_mono {fp fp' : Nat → Prop} {a b : World} (h : Upd fp a b) (hf : ∀ i, i < a.heap.size → fp i → fp' i) : Upd fp' a b := ⟨h.os, h.tape, h.output, h.size, fun i hi hn => h.block i hi (fun hh => hn (hf i hi hh))⟩
theorem upd_grown {w w' : World} {row : Option Nat} (h : w.grownBy w' row) : Upd (fun b => row = some b) w w' := ⟨h.os, h.tape, h.output, h.size, fun k hk hn => h.block k hk (fun e => hn e.symm)⟩
theorem upd_cell {fp : Nat → Prop} {w w' : World} (h : Upd fp w w') {b : Nat} (hb : b < w.heap.size) (hn : ¬ fp b) (o : Nat) : w'.cell? ⟨b, o, none⟩ = w.cell? ⟨b, o, none⟩ := World.cell?_of_block (w := w) (a := ⟨b, o, none⟩) (h.block b hb hn)
theorem upd_setRow {w : World} {g : Nat} (cs : Array Value) : Upd (fun b => b = g) w (w.setRow g cs) := ⟨rfl, rfl, rfl, by simp, fun k _ hn => setRow_other w g k cs hn⟩
theorem upd_setCell {w : World} {a : Addr} (u : Value) : Upd (fun b => b = a.block) w (w.setCell a u) := ⟨rfl, rfl, rfl, by simp [World.setCell], fun k _ hn => Below.heap_setCell _ _ _ _ hn⟩
/-- what a row owns is kept -/
theorem row_upd {fp : Nat → Prop} {w w' : World} {base : Nat} {e : TypeId} {size : Nat} {v : Value} {n : Nat} {xs : List Value} (h : w.ownsRow base e size v n xs) (hu : Upd fp w w') (hn : ∀ b, v.ownBlock = some b → ¬ fp b) : w'.ownsRow base e size v n xs := by
  refine ⟨h.1, ?_⟩
  rcases h.2 with hh | ⟨g, cap, cur, rfl, hb, hgg, rest⟩
  · exact .inl hh
  · exact .inr ⟨g, cap, cur, rfl, hb, (hu.block g (block_lt hgg) (hn g rfl)).trans hgg, rest⟩
theorem row_ext {w w' : World} {base : Nat} {e : TypeId} {size : Nat} {v : Value} {n : Nat} {xs : List Value} (h : w.ownsRow base e size v n xs) (hu : Ext w w') : w'.ownsRow base e size v n xs := row_upd h (upd_of_ext (fp := fun _ => False) hu) (fun _ _ h => h)

section
variable {P : Program} (w : World)
/-- copy, of elements of any size -/
theorem run_copy_any (dT sT ty elem : TypeId) (i : TypeInfo) (g o dLen dCap : Nat) (a : Addr) (sLen sCap : Nat) (cur : Array Value) (t : TypeId) (cs : List Value)
    (hu : P.underlying dT = some (.slice elem)) (hi : P.info? elem = some i) (hg : w.heap[g]? = some (.cells cur t (0, 0))) (hn : cs.length = (Nat.min sLen dLen) * i.size)
    (hsrc : ∀ j v, cs[j]? = some v → w.cell? (a.add j) = some v) (hfit : o + cs.length ≤ cur.size) (h1 : ∀ v ∈ cs, v.oneCell' = true) :
    (Builtin.copy_ #[dT, sT] ty #[.slice (some ⟨g, o, none⟩) dLen dCap, .slice (some a) sLen sCap]).run P w =
      .ok (goInt (Nat.min sLen dLen)) (w.setRow g (splice cur.toList o cs).toArray) := by
  have hf := run_firstCells_some (P := P) w i.size (Nat.min sLen dLen) a sLen sCap cs hn hsrc
  have hst := run_storeCells_at P g o t cs 0 cur w hg (by simpa using hfit) h1
  simp only [Nat.add_zero] at hst
  simp [Builtin.copy_, run_underlying hu, Builtin.lenOf, sizeOf, typeInfo, hi, hf, hst, splice]

theorem run_clear_any (t e ty : TypeId) (z : Value) (ht : P.underlying t = some (.slice e)) (hv : ∀ w, (zeroValue e).run P w = .ok z w) (g o n c : Nat) (cur : Array Value) (et : TypeId) (hg : w.heap[g]? = some (.cells cur et (0, 0)))
    (hfit : o + (Builtin.zeroCells z.cells n).toList.length ≤ cur.size) (h1 : ∀ v ∈ (Builtin.zeroCells z.cells n).toList, v.oneCell' = true) (hn : 0 < n) :
    (Builtin.clear_ #[t] ty #[.slice (some ⟨g, o, none⟩) n c]).run P w = .ok (.tuple #[]) (w.setRow g (splice cur.toList o (Builtin.zeroCells z.cells n).toList).toArray) := by
  have hst := run_storeCells_at P g o et (Builtin.zeroCells z.cells n).toList 0 cur w hg (by simpa using hfit) h1
  simp only [Nat.add_zero] at hst
  obtain ⟨m, rfl⟩ : ∃ m, n = m + 1 := ⟨n - 1, by omega⟩
  simp [Builtin.clear_, run_underlying ht, hv, hst, splice]

theorem wpList_copy_any {ops : Array Oper} {rest : List Oper} {o : Oper} {a : Act} {Q : Exit → Act → World → Prop} (hgd : o.guard = none) (d s : Operand) (dT sT : TypeId)
    (ho : o.op = .call { callee := .builtin .copy, args := #[d, s], argTypes := #[dT, sT] }) (elem : TypeId) (i : TypeInfo) (hu : P.underlying dT = some (.slice elem)) (hi : P.info? elem = some i)
    (g off dLen dCap : Nat) (ad : Addr) (sLen sCap : Nat) (hd : a.eval d = .slice (some ⟨g, off, none⟩) dLen dCap) (hs : a.eval s = .slice (some ad) sLen sCap)
    (cur : Array Value) (t : TypeId) (hg : w.heap[g]? = some (.cells cur t (0, 0))) (cs : List Value) (hn : cs.length = (Nat.min sLen dLen) * i.size)
    (hsrc : ∀ j v, cs[j]? = some v → w.cell? (ad.add j) = some v) (hfit : off + cs.length ≤ cur.size) (h1 : ∀ v ∈ cs, v.oneCell' = true)
    (h : wpList P ops Q rest (a.put o.dst (goInt (Nat.min sLen dLen))) (w.setRow g (splice cur.toList off cs).toArray)) : wpList P ops Q (o :: rest) a w := by
  refine wpList_plain hgd fun K hK => ?_
  have hrun := run_copy_any (P := P) w dT sT o.type elem i g off dLen dCap ad sLen sCap cur t cs hu hi hg hn hsrc hfit h1
  unfold Oper.wp
  simp [execOp, ho, resolve, invoke, builtin, hd, hs, hrun, Result.andThen]
  exact hK _ _ h

theorem wpList_clear_any {ops : Array Oper} {rest : List Oper} {o : Oper} {a : Act} {Q : Exit → Act → World → Prop} (hgd : o.guard = none) (x : Operand) (t : TypeId)
    (ho : o.op = .call { callee := .builtin .clear, args := #[x], argTypes := #[t] }) (e : TypeId) (z : Value) (ht : P.underlying t = some (.slice e)) (hv : ∀ w, (zeroValue e).run P w = .ok z w)
    (g off n c : Nat) (hx : a.eval x = .slice (some ⟨g, off, none⟩) n c) (cur : Array Value) (et : TypeId) (hg : w.heap[g]? = some (.cells cur et (0, 0)))
    (hfit : off + (Builtin.zeroCells z.cells n).toList.length ≤ cur.size) (h1 : ∀ v ∈ (Builtin.zeroCells z.cells n).toList, v.oneCell' = true) (hn : 0 < n)
    (h : wpList P ops Q rest (a.put o.dst (.tuple #[])) (w.setRow g (splice cur.toList off (Builtin.zeroCells z.cells n).toList).toArray)) : wpList P ops Q (o :: rest) a w := by
  refine wpList_plain hgd fun K hK => ?_
  have hrun := run_clear_any (P := P) w t e o.type z ht hv g off n c cur et hg hfit h1 hn
  unfold Oper.wp
  simp [execOp, ho, resolve, invoke, builtin, hx, hrun, Result.andThen]
  exact hK _ _ h

/-- append, where there is room, of cells that may lie in the same row -/
theorem wpList_append_room {ops : Array Oper} {rest : List Oper} {o : Oper} {a : Act} {Q : Exit → Act → World → Prop} (hgd : o.guard = none) (s x : Operand) (t : TypeId)
    (ho : o.op = .call { callee := .builtin .append, args := #[s, x], argTypes := #[t, t] }) (e : TypeId) (i : TypeInfo) (ht : P.underlying t = some (.slice e)) (hi : P.info? e = some i)
    (g sLen sCap : Nat) (hs : a.eval s = .slice (some ⟨g, 0, none⟩) sLen sCap) (cur : Array Value) (hg : w.heap[g]? = some (.cells cur e (0, 0)))
    (ad : Addr) (m c : Nat) (news : List Value) (hx : a.eval x = .slice (some ad) m c) (hl : news.length = m * i.size) (hnews : ∀ j u, news[j]? = some u → w.cell? (ad.add j) = some u) (h1 : ∀ u ∈ news, u.oneCell' = true)
    (hroom : sLen + m ≤ sCap) (hfit : sLen * i.size + news.length ≤ cur.size) (N : Nat) (hN : sLen + m = N)
    (h : wpList P ops Q rest (a.put o.dst (.slice (some ⟨g, 0, none⟩) N sCap)) (w.setRow g (splice cur.toList (sLen * i.size) news).toArray)) : wpList P ops Q (o :: rest) a w := by
  subst hN
  refine wpList_plain hgd fun K hK => ?_
  have hrun := run_append_room (P := P) w t o.type e i ht hi g sLen sCap cur hg ad m c news hl hnews h1 hroom hfit
  rw [show cur.toList.take (sLen * i.size) ++ news ++ cur.toList.drop (sLen * i.size + news.length) = splice cur.toList (sLen * i.size) news by simp [splice]] at hrun
  unfold Oper.wp
  simp [execOp, ho, resolve, invoke, builtin, hs, hx, hrun, Result.andThen]
  exact hK _ _ h

/-- append(s[:i], make(.., k)...), where there is no room -/
theorem wpList_append_zeros {ops : Array Oper} {rest : List Oper} {o : Oper} {a : Act} {Q : Exit → Act → World → Prop} (hgd : o.guard = none) (s x : Operand) (t tn : TypeId)
    (ho : o.op = .call { callee := .builtin .append, args := #[s, x], argTypes := #[t, tn] }) (e : TypeId) (i : TypeInfo) (z : Value) (kq kn : IntKind) (ht : P.underlying t = some (.slice e)) (htn : P.underlying tn = some (.int kn)) (hi : P.info? e = some i) (hz : i.zero = some z)
    (ad : Addr) (sLen sCap : Nat) (hs : a.eval s = .slice (some ad) sLen sCap) (olds : List Value) (hlo : olds.length = sLen * i.size) (hold : ∀ j u, olds[j]? = some u → w.cell? (ad.add j) = some u)
    (k N : Nat) (kk : Int) (hx : a.eval x = .int kq kk) (hkk : kk = (k : Int)) (hN : sLen + k = N) (h0 : 0 < k) (hsz : 0 < i.size) (hg : sCap < N) (h63m : N ≤ maxLen) (h47 : N * i.bytes ≤ 140737488355328)
    (h : ∀ c cur, N ≤ c → c ≤ maxLen → cur.size = c * z.cells.size → cur.toList.take olds.length = olds → wpList P ops Q rest (a.put o.dst (.slice (some ⟨w.heap.size, 0, none⟩) N c)) (w.drew.alloc (.cells cur e))) (hzs : z.cells.size = i.size) : wpList P ops Q (o :: rest) a w := by
  subst hkk
  subst hN
  refine wpList_plain hgd fun K hK => ?_
  have hf := run_firstCells_some (P := P) w.drew i.size sLen ad sLen sCap olds hlo hold
  have hrun := Lib.run_append_grow_zeros (P := P) w t tn o.type e i z kq kn ht htn hi hz (some ad) sLen sCap olds hf k h0 hsz hg (by unfold maxLen at h63m; omega) (by
    have : k * i.bytes ≤ (sLen + k) * i.bytes := Nat.mul_le_mul_right _ (by omega)
    omega) (growslice_fits hg h47)
  unfold Oper.wp
  simp only [execOp, ho]
  simp [resolve, invoke, builtin, hs, hx, hrun, Result.andThen]
  exact hK _ _ (h _ _ (grownCap_ge w (sLen + k) sCap e) (grownCap_le_maxLen w (sLen + k) sCap e h63m) (by
    have := grownCap_ge w (sLen + k) sCap e
    simp only [Array.size_append, List.size_toArray, size_zeroCells, hlo, hzs]
    rw [← Nat.add_mul, ← Nat.add_mul]
    congr 1; omega) (by simp))
end

theorem heap_setCell_at {w : World} {s j : Nat} {u : Value} {cs : Array Value} {t : TypeId} {fr : Nat × Nat} (h : w.heap[s]? = some (.cells cs t fr)) : (w.setCell ⟨s, j, none⟩ u).heap[s]? = some (.cells (cs.setIfInBounds j u) t fr) := by
  simp [World.setCell, Array.getElem?_modify, h]

theorem heap_three (w : World) (o0 o1 o2 : Obj) : (((w.alloc o0).alloc o1).alloc o2).heap[w.heap.size]? = some o0 ∧ (((w.alloc o0).alloc o1).alloc o2).heap[w.heap.size + 1]? = some o1 ∧ (((w.alloc o0).alloc o1).alloc o2).heap[w.heap.size + 2]? = some o2 := by
  have h1 := heap_alloc_new (w.alloc o0) o1
  have h2 := heap_alloc_new ((w.alloc o0).alloc o1) o2
  rw [World.size_alloc] at h1
  rw [World.size_alloc, World.size_alloc] at h2
  exact ⟨(Below.heap_alloc _ _ _ (by simp; omega)).trans ((Below.heap_alloc _ _ _ (by simp)).trans (heap_alloc_new w o0)), (Below.heap_alloc _ _ _ (by simp)).trans h1, h2⟩

theorem halt_here {p : Prop} (h : Hid p) : p := h
theorem go_on {p : Prop} (h : p) : Hid p := h
theorem wpList_haltX {P : Program} {ops : Array Oper} {Q : Exit → Act → World → Prop} {op : Op} {t : TypeId} {p : String} {af : Array Edge} {rest : List Oper} {a : Act} {w : World} (h : Hid (wpList P ops Q (⟨none, op, t, p, af, none⟩ :: rest) a w)) : wpList P ops Q (⟨none, op, t, p, af, none⟩ :: rest) a w := h
end Go.Proofs.Ytojgbphmkloicaa
