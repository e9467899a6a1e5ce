/- Texts joined: Ru Gc Gd Gj. -/
import Derived.Test.YtiabmdboacpmcaaY02
import Derived.Laws.CopyOwn
import Derived.Lib.AppendZerosOnto
import Derived.Lib.SliceRun
import Derived.OwnWalk
import Derived.Lib.Hide
/- What has turned in memory; copy, clear and append on rows. -/
namespace Go.Proofs.Ytiabmdboacpmcaa
open Go Go.RowKit Go.Sort

/-- Of what was there only blocks of fp have turned; blocks may have been made. -/
structure Upd (fp : Nat → Prop) (w w' : World) : Prop where
  os : w'.os = w.os
  tape : w'.tape = w.tape
  output : w'.output = w.output
  size : w.heap.size ≤ w'.heap.size
  block : ∀ k, k < w.heap.size → ¬ fp k → w'.heap[k]? = w.heap[k]?

theorem upd_of_ext {fp : Nat → Prop} {w w' : World} (h : Ext w w') : Upd fp w w' := ⟨Below.os h, Below.tape h, Below.output h, Below.size h, fun k hk _ => Below.block h k hk⟩
theorem ext_of_upd {w w' : World} (h : Upd (fun _ => False) w w') : Ext w w' := ⟨h.os, h.tape, h.output, h.size, fun k hk => h.block k hk (fun h => h)⟩
theorem upd_refl {fp : Nat → Prop} {w : World} : Upd fp w w := upd_of_ext (ext_refl _)
theorem upd_trans {fp fp' : Nat → Prop} {a b c : World} (h : Upd fp a b) (k : Upd fp' b c) (hf : ∀ i, i < a.heap.size → fp' i → fp i) : Upd fp a c :=
  ⟨k.os.trans h.os, k.tape.trans h.tape, k.output.trans h.output, Nat.le_trans h.size k.size, fun i hi hn => (k.block i (Nat.lt_of_lt_of_le hi h.size) (fun hh => hn (hf i hi hh))).trans (h.block i hi hn)⟩
theorem upd_mono {fp fp' : Nat → Prop} {a b : World} (h : Upd fp a b) (hf : ∀ i, i < a.heap.size → fp i → fp' i) : Upd fp' a b := ⟨h.os, h.tape, h.output, h.size, fun i hi hn => h.block i hi (fun hh => hn (hf i hi hh))⟩
theorem upd_grown {w w' : World} {row : Option Nat} (h : w.grownBy w' row) : Upd (fun b => row = some b) w w' := ⟨h.os, h.tape, h.output, h.size, fun k hk hn => h.block k hk (fun e => hn e.symm)⟩
theorem upd_cell {fp : Nat → Prop} {w w' : World} (h : Upd fp w w') {b : Nat} (hb : b < w.heap.size) (hn : ¬ fp b) (o : Nat) : w'.cell? ⟨b, o, none⟩ = w.cell? ⟨b, o, none⟩ := World.cell?_of_block (w := w) (a := ⟨b, o, none⟩) (h.block b hb hn)
theorem upd_setRow {w : World} {g : Nat} (cs : Array Value) : Upd (fun b => b = g) w (w.setRow g cs) := ⟨rfl, rfl, rfl, by simp, fun k _ hn => setRow_other w g k cs hn⟩
theorem upd_setCell {w : World} {a : Addr} (u : Value) : Upd (fun b => b = a.block) w (w.setCell a u) := ⟨rfl, rfl, rfl, by simp [World.setCell], fun k _ hn => Below.heap_setCell _ _ _ _ hn⟩
/-- what a row owns is kept -/
theorem row_upd {fp : Nat → Prop} {w w' : World} {base : Nat} {e : TypeId} {size : Nat} {v : Value} {n : Nat} {xs : List Value} (h : w.ownsRow base e size v n xs) (hu : Upd fp w w') (hn : ∀ b, v.ownBlock = some b → ¬ fp b) : w'.ownsRow base e size v n xs := by
  refine ⟨h.1, ?_⟩
  rcases h.2 with hh | ⟨g, cap, cur, rfl, hb, hgg, rest⟩
  · exact .inl hh
  · exact .inr ⟨g, cap, cur, rfl, hb, (hu.block g (block_lt hgg) (hn g rfl)).trans hgg, rest⟩
theorem row_ext {w w' : World} {base : Nat} {e : TypeId} {size : Nat} {v : Value} {n : Nat} {xs : List Value} (h : w.ownsRow base e size v n xs) (hu : Ext w w') : w'.ownsRow base e size v n xs := row_upd h (upd_of_ext (fp := fun _ => False) hu) (fun _ _ h => h)

section
variable {P : Program} (w : World)
/-- copy, of elements of any size -/
theorem run_copy_any (dT sT ty elem : TypeId) (i : TypeInfo) (g o dLen dCap : Nat) (a : Addr) (sLen sCap : Nat) (cur : Array Value) (t : TypeId) (cs : List Value)
    (hu : P.underlying dT = some (.slice elem)) (hi : P.info? elem = some i) (hg : w.heap[g]? = some (.cells cur t (0, 0))) (hn : cs.length = (Nat.min sLen dLen) * i.size)
    (hsrc : ∀ j v, cs[j]? = some v → w.cell? (a.add j) = some v) (hfit : o + cs.length ≤ cur.size) (h1 : ∀ v ∈ cs, v.oneCell' = true) :
    (Builtin.copy_ #[dT, sT] ty #[.slice (some ⟨g, o, none⟩) dLen dCap, .slice (some a) sLen sCap]).run P w =
      .ok (goInt (Nat.min sLen dLen)) (w.setRow g (splice cur.toList o cs).toArray) := by
  have hf := run_firstCells_some (P := P) w i.size (Nat.min sLen dLen) a sLen sCap cs hn hsrc
  have hst := run_storeCells_at P g o t cs 0 cur w hg (by simpa using hfit) h1
  simp only [Nat.add_zero] at hst
  simp [Builtin.copy_, run_underlying hu, Builtin.lenOf, sizeOf, typeInfo, hi, hf, hst, splice]

theorem run_clear_any (t e ty : TypeId) (z : Value) (ht : P.underlying t = some (.slice e)) (hv : ∀ w, (zeroValue e).run P w = .ok z w) (g o n c : Nat) (cur : Array Value) (et : TypeId) (hg : w.heap[g]? = some (.cells cur et (0, 0)))
    (hfit : o + (Builtin.zeroCells z.cells n).toList.length ≤ cur.size) (h1 : ∀ v ∈ (Builtin.zeroCells z.cells n).toList, v.oneCell' = true) (hn : 0 < n) :
    (Builtin.clear_ #[t] ty #[.slice (some ⟨g, o, none⟩) n c]).run P w = .ok (.tuple #[]) (w.setRow g (splice cur.toList o (Builtin.zeroCells z.cells n).toList).toArray) := by
  have hst := run_storeCells_at P g o et (Builtin.zeroCells z.cells n).toList 0 cur w hg (by simpa using hfit) h1
  simp only [Nat.add_zero] at hst
  obtain ⟨m, rfl⟩ : ∃ m, n = m + 1 := ⟨n - 1, by omega⟩
  simp [Builtin.clear_, run_underlying ht, hv, hst, splice]

theorem wpList_copy_any {ops : Array Oper} {rest : List Oper} {o : Oper} {a : Act} {Q : Exit → Act → World → Prop} (hgd : o.guard = none) (d s : Operand) (dT sT : TypeId)
    (ho : o.op = .call { callee := .builtin .copy, args := #[d, s], argTypes := #[dT, sT] }) (elem : TypeId) (i : TypeInfo) (hu : P.underlying dT = some (.slice elem)) (hi : P.info? elem = some i)
    (g off dLen dCap : Nat) (ad : Addr) (sLen sCap : Nat) (hd : a.eval d = .slice (some ⟨g, off, none⟩) dLen dCap) (hs : a.eval s = .slice (some ad) sLen sCap)
    (cur : Array Value) (t : TypeId) (hg : w.heap[g]? = some (.cells cur t (0, 0))) (cs : List Value) (hn : cs.length = (Nat.min sLen dLen) * i.size)
    (hsrc : ∀ j v, cs[j]? = some v → w.cell? (ad.add j) = some v) (hfit : off + cs.length ≤ cur.size) (h1 : ∀ v ∈ cs, v.oneCell' = true)
    (h : wpList P ops Q rest (a.put o.dst (goInt (Nat.min sLen dLen))) (w.setRow g (splice cur.toList off cs).toArray)) : wpList P ops Q (o :: rest) a w := by
  refine wpList_plain hgd fun K hK => ?_
  have hrun := run_copy_any (P := P) w dT sT o.type elem i g off dLen dCap ad sLen sCap cur t cs hu hi hg hn hsrc hfit h1
  unfold Oper.wp
  simp [execOp, ho, resolve, invoke, builtin, hd, hs, hrun, Result.andThen]
  exact hK _ _ h

theorem wpList_clear_any {ops : Array Oper} {rest : List Oper} {o : Oper} {a : Act} {Q : Exit → Act → World → Prop} (hgd : o.guard = none) (x : Operand) (t : TypeId)
    (ho : o.op = .call { callee := .builtin .clear, args := #[x], argTypes := #[t] }) (e : TypeId) (z : Value) (ht : P.underlying t = some (.slice e)) (hv : ∀ w, (zeroValue e).run P w = .ok z w)
    (g off n c : Nat) (hx : a.eval x = .slice (some ⟨g, off, none⟩) n c) (cur : Array Value) (et : TypeId) (hg : w.heap[g]? = some (.cells cur et (0, 0)))
    (hfit : off + (Builtin.zeroCells z.cells n).toList.length ≤ cur.size) (h1 : ∀ v ∈ (Builtin.zeroCells z.cells n).toList, v.oneCell' = true) (hn : 0 < n)
    (h : wpList P ops Q rest (a.put o.dst (.tuple #[])) (w.setRow g (splice cur.toList off (Builtin.zeroCells z.cells n).toList).toArray)) : wpList P ops Q (o :: rest) a w := by
  refine wpList_plain hgd fun K hK => ?_
  have hrun := run_clear_any (P := P) w t e o.type z ht hv g off n c cur et hg hfit h1 hn
  unfold Oper.wp
  simp [execOp, ho, resolve, invoke, builtin, hx, hrun, Result.andThen]
  exact hK _ _ h

/-- append, where there is room, of cells that may lie in the same row -/
theorem wpList_append_room {ops : Array Oper} {rest : List Oper} {o : Oper} {a : Act} {Q : Exit → Act → World → Prop} (hgd : o.guard = none) (s x : Operand) (t : TypeId)
    (ho : o.op = .call { callee := .builtin .append, args := #[s, x], argTypes := #[t, t] }) (e : TypeId) (i : TypeInfo) (ht : P.underlying t = some (.slice e)) (hi : P.info? e = some i)
    (g sLen sCap : Nat) (hs : a.eval s = .slice (some ⟨g, 0, none⟩) sLen sCap) (cur : Array Value) (hg : w.heap[g]? = some (.cells cur e (0, 0)))
    (ad : Addr) (m c : Nat) (news : List Value) (hx : a.eval x = .slice (some ad) m c) (hl : news.length = m * i.size) (hnews : ∀ j u, news[j]? = some u → w.cell? (ad.add j) = some u) (h1 : ∀ u ∈ news, u.oneCell' = true)
    (hroom : sLen + m ≤ sCap) (hfit : sLen * i.size + news.length ≤ cur.size) (N : Nat) (hN : sLen + m = N)
    (h : wpList P ops Q rest (a.put o.dst (.slice (some ⟨g, 0, none⟩) N sCap)) (w.setRow g (splice cur.toList (sLen * i.size) news).toArray)) : wpList P ops Q (o :: rest) a w := by
  subst hN
  refine wpList_plain hgd fun K hK => ?_
  have hrun := run_append_room (P := P) w t o.type e i ht hi g sLen sCap cur hg ad m c news hl hnews h1 hroom hfit
  rw [show cur.toList.take (sLen * i.size) ++ news ++ cur.toList.drop (sLen * i.size + news.length) = splice cur.toList (sLen * i.size) news by simp [splice]] at hrun
  unfold Oper.wp
  simp [execOp, ho, resolve, invoke, builtin, hs, hx, hrun, Result.andThen]
  exact hK _ _ h

/-- append(s[:i], make(.., k)...), where there is no room -/
theorem wpList_append_zeros {ops : Array Oper} {rest : List Oper} {o : Oper} {a : Act} {Q : Exit → Act → World → Prop} (hgd : o.guard = none) (s x : Operand) (t tn : TypeId)
    (ho : o.op = .call { callee := .builtin .append, args := #[s, x], argTypes := #[t, tn] }) (e : TypeId) (i : TypeInfo) (z : Value) (kq kn : IntKind) (ht : P.underlying t = some (.slice e)) (htn : P.underlying tn = some (.int kn)) (hi : P.info? e = some i) (hz : i.zero = some z)
    (ad : Addr) (sLen sCap : Nat) (hs : a.eval s = .slice (some ad) sLen sCap) (olds : List Value) (hlo : olds.length = sLen * i.size) (hold : ∀ j u, olds[j]? = some u → w.cell? (ad.add j) = some u)
    (k N : Nat) (kk : Int) (hx : a.eval x = .int kq kk) (hkk : kk = (k : Int)) (hN : sLen + k = N) (h0 : 0 < k) (hsz : 0 < i.size) (hg : sCap < N) (h63m : N ≤ maxLen) (h47 : N * i.bytes ≤ 140737488355328)
    (h : ∀ c cur, N ≤ c → c ≤ maxLen → cur.size = c * z.cells.size → cur.toList.take olds.length = olds → wpList P ops Q rest (a.put o.dst (.slice (some ⟨w.heap.size, 0, none⟩) N c)) (w.drew.alloc (.cells cur e))) (hzs : z.cells.size = i.size) : wpList P ops Q (o :: rest) a w := by
  subst hkk
  subst hN
  refine wpList_plain hgd fun K hK => ?_
  have hf := run_firstCells_some (P := P) w.drew i.size sLen ad sLen sCap olds hlo hold
  have hrun := Lib.run_append_grow_zeros (P := P) w t tn o.type e i z kq kn ht htn hi hz (some ad) sLen sCap olds hf k h0 hsz hg (by unfold maxLen at h63m; omega) (by
    have : k * i.bytes ≤ (sLen + k) * i.bytes := Nat.mul_le_mul_right _ (by omega)
    omega) (growslice_fits hg h47)
  unfold Oper.wp
  simp only [execOp, ho]
  simp [resolve, invoke, builtin, hs, hx, hrun, Result.andThen]
  exact hK _ _ (h _ _ (grownCap_ge w (sLen + k) sCap e) (grownCap_le_maxLen w (sLen + k) sCap e h63m) (by
    have := grownCap_ge w (sLen + k) sCap e
    simp only [Array.size_append, List.size_toArray, size_zeroCells, hlo, hzs]
    rw [← Nat.add_mul, ← Nat.add_mul]
    congr 1; omega) (by simp))
end

theorem heap_setCell_at {w : World} {s j : Nat} {u : Value} {cs : Array Value} {t : TypeId} {fr : Nat × Nat} (h : w.heap[s]? = some (.cells cs t fr)) : (w.setCell ⟨s, j, none⟩ u).heap[s]? = some (.cells (cs.setIfInBounds j u) t fr) := by
  simp [World.setCell, Array.getElem?_modify, h]

theorem heap_three (w : World) (o0 o1 o2 : Obj) : (((w.alloc o0).alloc o1).alloc o2).heap[w.heap.size]? = some o0 ∧ (((w.alloc o0).alloc o1).alloc o2).heap[w.heap.size + 1]? = some o1 ∧ (((w.alloc o0).alloc o1).alloc o2).heap[w.heap.size + 2]? = some o2 := by
  have h1 := heap_alloc_new (w.alloc o0) o1
  have h2 := heap_alloc_new ((w.alloc o0).alloc o1) o2
  rw [World.size_alloc] at h1
  rw [World.size_alloc, World.size_alloc] at h2
  exact ⟨(Below.heap_alloc _ _ _ (by simp; omega)).trans ((Below.heap_alloc _ _ _ (by simp)).trans (heap_alloc_new w o0)), (Below.heap_alloc _ _ _ (by simp)).trans h1, h2⟩

theorem halt_here {p : Prop} (h : Hid p) : p := h
theorem go_on {p : Prop} (h : p) : Hid p := h
theorem wpList_haltX {P : Program} {ops : Array Oper} {Q : Exit → Act → World → Prop} {op : Op} {t : TypeId} {p : String} {af : Array Edge} {rest : List Oper} {a : Act} {w : World} (h : Hid (wpList P ops Q (⟨none, op, t, p, af, none⟩ :: rest) a w)) : wpList P ops Q (⟨none, op, t, p, af, none⟩ :: rest) a w := h
end Go.Proofs.Ytiabmdboacpmcaa
/- A region that draws its order and in which one operation turns memory; the others' values are fixed in all worlds of a class: walked once. -/
namespace Go.Proofs.Ytiabmdboacpmcaa
open Go Go.RowKit Go.Sort

/-- the worlds of a class -/
structure CW (C : World → Prop) where
  val : World
  ok : C val

section
variable {P : Program} {ops : Array Oper} {W : World} {C : World → Prop}

def cAt (P : Program) (C : World → Prop) (o : Oper) (a : Act) (v : Value) : Prop :=
  ∀ p : CW C, o.quietAt P a (fun w' => Ext p.val w') p.val v

def cYD (P : Program) (C : World → Prop) (ops : Array Oper) (o : Oper) (v : Value) (a : Act) : Prop :=
  (Region.wanted o (yielded ops a.tmps) = true ∧ cAt P C o a v) ∨ (Region.wanted o (yielded ops a.tmps) = false ∧ v = undef)

theorem cYD.of_same {o : Oper} {v : Value} {a a' : Act} (hy : cYD P C ops o v a) (he : execOp a'.eval o = execOp a.eval o)
    (hw : Region.wanted o (yielded ops a'.tmps) = Region.wanted o (yielded ops a.tmps)) : cYD P C ops o v a' := by
  unfold cYD cAt Oper.quietAt at *
  rw [he, hw]
  exact hy

theorem cYD.op {i : Nat} {o : Oper} {v : Value} {a : Act} {w : World} {K : Act → World → Prop} {Q : Exit → Act → World → Prop} (hi : ops[i]? = some o) (hy : cYD P C ops o v a)
    (hb : C w) (h : ∀ w', Ext w w' → K (a.put o.dst v) w') : wpOp P ops Q i K a w := by
  unfold wpOp
  simp only [hi]
  rcases hy with ⟨hw, hl⟩ | ⟨hw, rfl⟩
  · simp only [hw, if_true]
    refine .inl ?_
    have h3 := hl ⟨w, hb⟩
    unfold Oper.quietAt at h3
    unfold Oper.wp
    simp only at h3
    generalize (execOp a.eval o).run P w = r at *
    cases r with
    | ok n w' =>
      cases n <;> simp only [Oper.quietUpon] at h3 <;> simp only [Oper.upon]
      case value u =>
        obtain ⟨e1, e2⟩ := h3
        rw [e1, e2]
        exact h _ (ext_refl _)
      case skip =>
        obtain ⟨e1, e2⟩ := h3
        rw [e1, ← e2]
        exact h _ (ext_refl _)
      case enter f args =>
        obtain ⟨e1, hc⟩ := h3
        rw [e1]
        exact hc.mono fun e w'' ⟨he, hw''⟩ => by subst he; exact h _ hw''
    | halt x w' => simp only [Oper.quietUpon] at h3
  · simp only [hw, Bool.false_eq_true, if_false]
    exact h _ (ext_refl _)

def wpC (P : Program) (C : World → Prop) (ops : Array Oper) (Fin : Act → Prop) : List Nat → Act → Prop
  | [], a => Fin a
  | i :: l, a => ∃ o v, ops[i]? = some o ∧ cYD P C ops o v a ∧ wpC P C ops Fin l (a.put o.dst v)

theorem wpC_nil {Fin : Act → Prop} {a : Act} (h : Fin a) : wpC P C ops Fin [] a := h

theorem wpC_step {Fin : Act → Prop} {i : Nat} {l : List Nat} {a : Act} {o : Oper} (ho : ops[i]? = some o)
    (h : ∀ K : Act → Prop, (∀ a, wpC P C ops Fin l a → K a) → if Region.wanted o (yielded ops a.tmps) then
      ∃ v, (∀ p : CW C, o.quietAt P a (fun w' => Ext p.val w') p.val v) ∧ K (a.put o.dst v)
      else K (a.put o.dst undef)) : wpC P C ops Fin (i :: l) a := by
  have h' := h _ (fun _ h => h)
  by_cases hw : Region.wanted o (yielded ops a.tmps) = true
  · rw [if_pos hw] at h'
    obtain ⟨v, h1, h2⟩ := h'
    exact ⟨o, v, ho, .inl ⟨hw, h1⟩, h2⟩
  · rw [if_neg hw] at h'
    exact ⟨o, undef, ho, .inr ⟨by simpa using hw, rfl⟩, h'⟩

theorem wpC_mono {Fin Fin' : Act → Prop} (h : ∀ a, Fin a → Fin' a) : ∀ (l : List Nat) (a : Act), wpC P C ops Fin l a → wpC P C ops Fin' l a
  | [], _, h' => h _ h'
  | _ :: l, _, ⟨o, v, ho, hy, hr⟩ => ⟨o, v, ho, hy, wpC_mono h l _ hr⟩

theorem c_pick (hsel : ∀ (j : Nat) (o : Oper) cs b, ops[j]? = some o → o.op ≠ .select cs b) {Fin : Act → Prop} {i : Nat} {l2 : List Nat} : ∀ (l1 : List Nat) (a : Act), (∀ k ∈ l1, apB ops k i = true) →
    wpC P C ops Fin (l1 ++ i :: l2) a → ∃ o v, ops[i]? = some o ∧ cYD P C ops o v a ∧ wpC P C ops Fin (l1 ++ l2) (a.put o.dst v)
  | [], _, _, h => h
  | k :: l1, a, hap, ⟨ok, vk, hk, hyk, hr⟩ => by
    obtain ⟨o, v, hi, hy, hr'⟩ := c_pick hsel l1 _ (fun x hx => hap x (List.mem_cons_of_mem _ hx)) hr
    obtain ⟨h1, h2, h3⟩ := Oper.apart_spec (apB_spec hk hi (hap k (List.mem_cons_self ..)))
    refine ⟨o, v, hi, hy.of_same (execOp_put o (fun cs b => hsel i o cs b hi) a _ _ h1).symm (wanted_put o a _ _ h1).symm, ok, vk, hk,
      hyk.of_same (execOp_put ok (fun cs b => hsel k ok cs b hk) a _ _ h3) (wanted_put ok a _ _ h3), ?_⟩
    rw [← Act.put_comm a vk v h2]
    exact hr'

theorem c_put (hsel : ∀ (j : Nat) (o : Oper) cs b, ops[j]? = some o → o.op ≠ .select cs b) {Fin : Act → Prop} {i : Nat} {o : Oper} (hi : ops[i]? = some o) (u : Value) : ∀ (l : List Nat) (a : Act), (∀ k ∈ l, apB ops k i = true) →
    wpC P C ops Fin l a → wpC P C ops (fun a' => ∃ a0, a' = a0.put o.dst u ∧ execOp a0.eval o = execOp a.eval o ∧ Fin a0) l (a.put o.dst u)
  | [], a, _, h => ⟨a, rfl, rfl, h⟩
  | k :: l, a, hap, ⟨ok, vk, hk, hyk, hr⟩ => by
    obtain ⟨h1, h2, h3⟩ := Oper.apart_spec (apB_spec hk hi (hap k (List.mem_cons_self ..)))
    refine ⟨ok, vk, hk, hyk.of_same (execOp_put ok (fun cs b => hsel k ok cs b hk) a _ _ h3) (wanted_put ok a _ _ h3), ?_⟩
    rw [← Act.put_comm a vk u h2]
    refine wpC_mono ?_ _ _ (c_put hsel hi u l _ (fun x hx => hap x (List.mem_cons_of_mem _ hx)) hr)
    rintro a' ⟨a0, h4, h5, h6⟩
    exact ⟨a0, h4, h5.trans (execOp_put o (fun cs b => hsel i o cs b hi) a _ _ h1), h6⟩

theorem c_out (hsel : ∀ (j : Nat) (o : Oper) cs b, ops[j]? = some o → o.op ≠ .select cs b) {Fin : Act → Prop} {i : Nat} {o : Oper} (hi : ops[i]? = some o) : ∀ (l : List Nat) (a : Act), (∀ k ∈ l, apB ops k i = true) →
    wpC P C ops Fin l a → ∃ a', Fin a' ∧ execOp a'.eval o = execOp a.eval o
  | [], a, _, h => ⟨a, h, rfl⟩
  | k :: l, a, hap, ⟨ok, vk, hk, _, hr⟩ => by
    obtain ⟨h1, _, _⟩ := Oper.apart_spec (apB_spec hk hi (hap k (List.mem_cons_self ..)))
    obtain ⟨a', h, he⟩ := c_out hsel hi l _ (fun x hx => hap x (List.mem_cons_of_mem _ hx)) hr
    exact ⟨a', h, he.trans (execOp_put o (fun cs b => hsel i o cs b hi) a _ _ h1)⟩

theorem ccore1 (hCE : ∀ a b, C a → Ext a b → C b) {Q : Exit → Act → World → Prop} {DA T : List Nat} (hsel : ∀ (j : Nat) (o : Oper) cs b, ops[j]? = some o → o.op ≠ .select cs b)
    (hD : List.Pairwise (Pr ops) DA) (hS : ∀ i ∈ DA, mselfB ops T i = true) (hsink : ∀ t l, T = t :: l → sinkL ops t DA = true) (hchain : chainL ops T = true) (hseq : seqL ops T (mcanon ops T) = true) :
    ∀ (m : Nat) (listed : Array Bool) (a : Act) (w : World) (Dr : List Nat) (S : World → Prop), Dr.length = m → MInv ops T listed →
      (∀ i, i < ops.size → i ∉ T → (listed.getD i true = false ↔ i ∈ Dr)) → Dr.Sublist DA → C w → S w → (∀ w w', Ext w w' → S w → S w') →
      wpC P C ops (fun a' => ∀ w', C w' → S w' → wpSeq P ops Q T a' w') Dr a →
      wpAny P .any ops Q (m + T.length) listed a w := by
  intro m
  induction m with
  | zero =>
    intro listed a w Dr S hm inv hun hDr hb hs hmono h
    obtain rfl : Dr = [] := List.eq_nil_of_length_eq_zero (by omega)
    have h' : wpSeq P ops Q T a w := h w hb hs
    have hc : listed = mcanon ops T := by
      apply Array.ext_getElem?
      intro i
      by_cases hi : i < ops.size
      · have hl : i < listed.size := by rw [inv.size]; exact hi
        by_cases hin : i ∈ T
        · have h1 := inv.tail i hin hi
          simp [mcanon, hi, hin, hl] at h1 ⊢
          exact h1
        · have h1 := hun i hi hin
          simp only [List.not_mem_nil, iff_false, Bool.not_eq_false] at h1
          simp [mcanon, hi, hin, hl] at h1 ⊢
          exact h1
      · rw [Array.getElem?_eq_none (by rw [inv.size]; omega), Array.getElem?_eq_none (by simp [mcanon]; omega)]
    rw [Nat.zero_add]
    exact wpAny_of_seqL T listed a w (by rw [hc]; exact hseq) h'
  | succ m ih =>
    intro listed a w Dr S hm inv hun hsub hb hs hmono h
    rw [show m + 1 + T.length = (m + T.length) + 1 by omega]
    have hpw : List.Pairwise (Pr ops) Dr := hD.sublist hsub
    have hmem : ∀ i ∈ Dr, mselfB ops T i = true := fun i hi => hS i (hsub.subset hi)
    have hlt : ∀ i ∈ Dr, i < ops.size ∧ i ∉ T := fun i hi => by
      have := hmem i hi
      simp only [mselfB, Bool.and_eq_true, decide_eq_true_eq] at this
      exact this.1.2
    have hunl : ∀ i ∈ Dr, listed.getD i true = false := fun i hi => (hun i (hlt i hi).1 (hlt i hi).2).2 hi
    -- what is ready does not wait for what has not come up
    have hready : ∀ i ∈ Region.ready .any ops listed, ∀ k, listed.getD k true = false → Region.waitsFor .any ops i k = false := fun i hi k hk => by
      cases hw : Region.waitsFor .any ops i k with
      | false => rfl
      | true =>
        obtain ⟨oj, hoj, e, he, hbd, hon⟩ := Region.waitsFor_spec hw
        obtain ⟨_, o, ho, hall⟩ := mem_ready.1 hi
        obtain rfl : o = oj := Option.some.inj (ho.symm.trans hoj)
        have := hall e he hbd
        rw [hon, getD_both hk] at this
        cases this
    constructor
    · -- the first of what is left is ready
      intro hnil
      exfalso
      obtain ⟨x, xs, hx⟩ : ∃ x xs, Dr = x :: xs := by
        cases hl : Dr with
        | nil => rw [hl] at hm; simp at hm
        | cons x xs => exact ⟨x, xs, rfl⟩
      have hxm : x ∈ Dr := by rw [hx]; exact List.mem_cons_self ..
      have hsx := hmem x hxm
      simp only [mselfB, Bool.and_eq_true, decide_eq_true_eq, Bool.not_eq_true'] at hsx
      obtain ⟨⟨hs1, hs2⟩, hs3⟩ := hsx
      cases ho : ops[x]? with
      | none => rw [ho] at hs3; cases hs3
      | some o =>
        rw [ho] at hs3
        have : x ∈ Region.ready .any ops listed := mem_ready.2 ⟨hunl x hxm, o, ho, fun e he hbd => by
          have h1 := (Array.all_eq_true'.1 hs3) e he
          simp only [hbd, Bool.not_true, Bool.false_or, decide_eq_true_eq] at h1
          cases hl : listed.getD e.on false with
          | true => rfl
          | false =>
            have hl' : listed.getD e.on true = false := getD_in (by rw [inv.size]; exact h1.1) hl
            have hin := (hun e.on h1.1 h1.2).1 hl'
            have hwt := waits_of ho he hbd rfl
            rw [hx] at hin
            rcases List.mem_cons.1 hin with hh | hh
            · rw [hh, hs1] at hwt; cases hwt
            · rw [hx] at hpw
              have := (List.pairwise_cons.1 hpw).1 _ hh
              rw [this.2.1] at hwt; cases hwt⟩
        rw [hnil] at this
        cases this
    · intro i hi
      have hiu := (mem_ready.1 hi).1
      obtain ⟨_, o, ho, _⟩ := mem_ready.1 hi
      have hisz : i < ops.size := (Array.getElem?_eq_some_iff.1 ho).1
      by_cases hin : i ∉ T
      · have hset : ∀ (X : List Nat), (∀ j, j < ops.size → j ∉ T → j ≠ i → (j ∈ Dr ↔ j ∈ X)) → i ∉ X → ∀ j, j < ops.size → j ∉ T → ((listed.setIfInBounds i true).getD j true = false ↔ j ∈ X) := fun X hXY hX j hj hjT => by
          by_cases hji : i = j
          · subst hji
            have h1 : (listed.setIfInBounds i true).getD i true = true := by
              have : i < listed.size := by rw [inv.size]; exact hisz
              simp [this]
            rw [h1]
            simp [hX]
          · rw [getD_set_ne true hji, hun j hj hjT, hXY j hj hjT (fun h => hji h.symm)]
        have hmD := (hun i hisz hin).1 hiu
        obtain ⟨l1, l2, rfl⟩ := List.append_of_mem hmD
        have hap : ∀ k ∈ l1, apB ops k i = true := fun k hk => by
          have h1 := (List.pairwise_append.1 hpw).2.2 k hk i (List.mem_cons_self ..)
          rcases h1.1 with h2 | h2
          · rw [hready i hi k (hunl k (List.mem_append_left _ hk))] at h2; cases h2
          · exact h2
        obtain ⟨o', v, ho', hy, hr⟩ := c_pick hsel l1 a hap h
        obtain rfl : o' = o := Option.some.inj (ho'.symm.trans ho)
        have hsl : (l1 ++ l2).Sublist (l1 ++ i :: l2) := (List.Sublist.refl l1).append (List.sublist_cons_self ..)
        have hni : i ∉ l1 ++ l2 := by
          have h1 := List.pairwise_append.1 hpw
          intro hm'
          rcases List.mem_append.1 hm' with hm' | hm'
          · exact (h1.2.2 i hm' i (List.mem_cons_self ..)).2.2 rfl
          · exact ((List.pairwise_cons.1 h1.2.1).1 i hm').2.2 rfl
        exact hy.op ho hb (fun w' hw' => ih _ _ w' (l1 ++ l2) S (by simp at hm ⊢; omega) (inv.set hi hin) (hset _ (fun j _ _ hji => by simp [hji]) hni) (hsl.trans hsub) (hCE _ _ hb hw') (hmono _ _ hw' hs) hmono hr)
      · -- the tail waits
        exfalso
        have hin' : i ∈ T := by simpa using hin
        refine mtail_waits hsink hchain inv (L := Dr) hsub ?_ hunl (fun j hj hjT hju => (hun j hj hjT).1 hju) i hin' hi
        intro h0
        rw [h0] at hm
        simp at hm

/-- the operation that turns old memory, and what is behind it -/
def CFin (P : Program) (C : World → Prop) (ops : Array Oper) (W : World) (Q : Exit → Act → World → Prop) (T : List Nat) (iM : Nat) (R : Rel) (a : Act) (S : World → Prop) : Prop :=
  (∃ o, ops[iM]? = some o ∧ o.guard = none ∧ (∀ v w w', Ext w w' → R v w → R v w')) ∧
  (∀ w, Ext W w → S w → ∀ o, ops[iM]? = some o → runsAt P o a (fun v w' => C w' ∧ R v w') w) ∧
  (∀ o, ops[iM]? = some o → ∀ v w', C w' → R v w' → wpSeq P ops Q T (a.put o.dst v) w')

theorem ccore2 (hCE : ∀ a b, C a → Ext a b → C b) (hCW : C W) {Q : Exit → Act → World → Prop} {D T : List Nat} {G : List (Nat × Rel)} {iM : Nat} {R : Rel} (hsel : ∀ (j : Nat) (o : Oper) cs b, ops[j]? = some o → o.op ≠ .select cs b)
    (hD : List.Pairwise (Pr ops) (D ++ (G.map Prod.fst ++ [iM]))) (hS : ∀ i ∈ D ++ (G.map Prod.fst ++ [iM]), mselfB ops T i = true) (hsink : ∀ t l, T = t :: l → sinkL ops t (D ++ (G.map Prod.fst ++ [iM])) = true) (hM : ∀ g ∈ G, Region.waitsFor .any ops iM g.1 = true) (hchain : chainL ops T = true) (hseq : seqL ops T (mcanon ops T) = true) :
    ∀ (m : Nat) (listed : Array Bool) (a : Act) (w : World) (Dr : List Nat) (Gr : List (Nat × Rel)) (S : List (Nat × (World → Prop))), Dr.length + Gr.length + 1 = m → MInv ops T listed →
      (∀ i, i < ops.size → i ∉ T → (listed.getD i true = false ↔ i ∈ Dr ∨ i ∈ Gr.map Prod.fst ++ [iM])) → Dr.Sublist D → Gr.Sublist G → Ext W w → (∀ x ∈ S, x.2 w) →
      (∀ x ∈ S, ∀ w w', Ext w w' → x.2 w → x.2 w') →
      wpC P C ops (fun a' => wpGen P ops W (fun a'' S' => CFin P C ops W Q T iM R a'' S') Gr a' S) Dr a →
      wpAny P .any ops Q (m + T.length) listed a w := by
  have hF : ∀ (a : Act) (S S' : World → Prop), (∀ w, S' w → S w) → CFin P C ops W Q T iM R a S → CFin P C ops W Q T iM R a S' :=
    fun a S S' h h1 => ⟨h1.1, fun w hw hs => h1.2.1 w hw (h _ hs), h1.2.2⟩
  intro m
  induction m with
  | zero =>
    intro listed a w Dr Gr S hm
    omega
  | succ m ih =>
    intro listed a w Dr Gr S hm inv hun hDr hGr hb hs hmono h
    rw [show m + 1 + T.length = (m + T.length) + 1 by omega]
    obtain ⟨Ar, hAr⟩ : ∃ Ar, Gr.map Prod.fst ++ [iM] = Ar := ⟨_, rfl⟩
    obtain ⟨A, hA⟩ : ∃ A, G.map Prod.fst ++ [iM] = A := ⟨_, rfl⟩
    have hlenA : Ar.length = Gr.length + 1 := by rw [← hAr, List.length_append, List.length_map]; rfl
    rw [hA] at hD hS hsink
    rw [hAr] at hun
    have hArs : Ar.Sublist A := by rw [← hAr, ← hA]; exact (hGr.map _).append (List.Sublist.refl _)
    have hsub : (Dr ++ Ar).Sublist (D ++ A) := hDr.append hArs
    have hpw : List.Pairwise (Pr ops) (Dr ++ Ar) := hD.sublist hsub
    have hmem : ∀ i ∈ Dr ++ Ar, mselfB ops T i = true := fun i hi => hS i (hsub.subset hi)
    have hlt : ∀ i ∈ Dr ++ Ar, i < ops.size ∧ i ∉ T := fun i hi => by
      have := hmem i hi
      simp only [mselfB, Bool.and_eq_true, decide_eq_true_eq] at this
      exact this.1.2
    have hunl : ∀ i ∈ Dr ++ Ar, listed.getD i true = false := fun i hi => (hun i (hlt i hi).1 (hlt i hi).2).2 (List.mem_append.1 hi)
    -- what is ready does not wait for what has not come up
    have hready : ∀ i ∈ Region.ready .any ops listed, ∀ k, listed.getD k true = false → Region.waitsFor .any ops i k = false := fun i hi k hk => by
      cases hw : Region.waitsFor .any ops i k with
      | false => rfl
      | true =>
        obtain ⟨oj, hoj, e, he, hbd, hon⟩ := Region.waitsFor_spec hw
        obtain ⟨_, o, ho, hall⟩ := mem_ready.1 hi
        obtain rfl : o = oj := Option.some.inj (ho.symm.trans hoj)
        have := hall e he hbd
        rw [hon, getD_both hk] at this
        cases this
    constructor
    · -- the first of what is left is ready
      intro hnil
      exfalso
      obtain ⟨x, xs, hx⟩ : ∃ x xs, Dr ++ Ar = x :: xs := by
        cases hl : Dr ++ Ar with
        | nil => have := congrArg List.length hl; simp only [List.length_append, List.length_nil] at this; omega
        | cons x xs => exact ⟨x, xs, rfl⟩
      have hxm : x ∈ Dr ++ Ar := by rw [hx]; exact List.mem_cons_self ..
      have hsx := hmem x hxm
      have hself := hsx
      simp only [mselfB, Bool.and_eq_true, decide_eq_true_eq, Bool.not_eq_true'] at hsx
      obtain ⟨⟨hs1, hs2⟩, hs3⟩ := hsx
      cases ho : ops[x]? with
      | none => rw [ho] at hs3; cases hs3
      | some o =>
        rw [ho] at hs3
        have : x ∈ Region.ready .any ops listed := mem_ready.2 ⟨hunl x hxm, o, ho, fun e he hbd => by
          have h1 := (Array.all_eq_true'.1 hs3) e he
          simp only [hbd, Bool.not_true, Bool.false_or, decide_eq_true_eq] at h1
          cases hl : listed.getD e.on false with
          | true => rfl
          | false =>
            have hl' : listed.getD e.on true = false := getD_in (by rw [inv.size]; exact h1.1) hl
            have hin := (hun e.on h1.1 h1.2).1 hl'
            have hin' : e.on ∈ x :: xs := by rw [← hx]; exact List.mem_append.2 hin
            have hwt := waits_of ho he hbd rfl
            rcases List.mem_cons.1 hin' with hh | hh
            · rw [hh, hs1] at hwt; cases hwt
            · rw [hx] at hpw
              have := (List.pairwise_cons.1 hpw).1 _ hh
              rw [this.2.1] at hwt; cases hwt⟩
        rw [hnil] at this
        cases this
    · intro i hi
      have hiu := (mem_ready.1 hi).1
      obtain ⟨_, o, ho, _⟩ := mem_ready.1 hi
      have hisz : i < ops.size := (Array.getElem?_eq_some_iff.1 ho).1
      by_cases hin : i ∉ T
      · have hset : ∀ (X Y : List Nat), (∀ j, j < ops.size → j ∉ T → j ≠ i → ((j ∈ Dr ∨ j ∈ Ar) ↔ (j ∈ X ∨ j ∈ Y))) → i ∉ X → i ∉ Y → ∀ j, j < ops.size → j ∉ T → ((listed.setIfInBounds i true).getD j true = false ↔ j ∈ X ∨ j ∈ Y) := fun X Y hXY hX hY j hj hjT => by
          by_cases hji : i = j
          · subst hji
            have h1 : (listed.setIfInBounds i true).getD i true = true := by
              have : i < listed.size := by rw [inv.size]; exact hisz
              simp [this]
            rw [h1]
            simp [hX, hY]
          · rw [getD_set_ne true hji, hun j hj hjT, hXY j hj hjT (fun h => hji h.symm)]
        rcases (hun i hisz hin).1 hiu with hmD | hmA
        · obtain ⟨l1, l2, rfl⟩ := List.append_of_mem hmD
          have hpwD : List.Pairwise (Pr ops) (l1 ++ i :: l2) := hpw.sublist (List.sublist_append_left ..)
          have hap : ∀ k ∈ l1, apB ops k i = true := fun k hk => by
            have h1 := (List.pairwise_append.1 hpwD).2.2 k hk i (List.mem_cons_self ..)
            rcases h1.1 with h2 | h2
            · rw [hready i hi k (hunl k (List.mem_append_left _ (List.mem_append_left _ hk)))] at h2; cases h2
            · exact h2
          obtain ⟨o', v, ho', hy, hr⟩ := c_pick hsel l1 a hap h
          obtain rfl : o' = o := Option.some.inj (ho'.symm.trans ho)
          have hsl : (l1 ++ l2).Sublist (l1 ++ i :: l2) := (List.Sublist.refl l1).append (List.sublist_cons_self ..)
          have hni : i ∉ l1 ++ l2 ∧ i ∉ Ar := by
            have h1 := List.pairwise_append.1 hpwD
            refine ⟨fun hm' => ?_, fun hm' => ?_⟩
            · rcases List.mem_append.1 hm' with hm' | hm'
              · exact (h1.2.2 i hm' i (List.mem_cons_self ..)).2.2 rfl
              · exact ((List.pairwise_cons.1 h1.2.1).1 i hm').2.2 rfl
            · exact ((List.pairwise_append.1 hpw).2.2 i (by simp) i hm').2.2 rfl
          refine hy.op ho (hCE _ _ hCW hb) (fun w' hw' => ih _ _ w' (l1 ++ l2) Gr S (by simp at hm ⊢; omega) (inv.set hi hin) (by rw [hAr]; exact hset _ _ (fun j _ _ hji => by simp [hji]) hni.1 hni.2) (hsl.trans hDr) hGr
            (ext_trans hb hw') (fun x hx => hmono x hx _ _ hw' (hs x hx)) hmono hr)
        · rw [← hAr] at hmA
          refine Or.elim (List.mem_append.1 hmA).symm (fun hmA => ?_) (fun hmA => ?_)
          · obtain rfl : i = iM := by simpa using hmA
            have hGr0 : Gr = [] := by
              cases Gr with
              | nil => rfl
              | cons g r =>
                have h1 := hM g (hGr.subset (List.mem_cons_self ..))
                rw [hready i hi g.1 (hunl g.1 (by rw [← hAr]; simp))] at h1
                cases h1
            subst hGr0
            have hpw2 := List.pairwise_append.1 hpw
            have hapD : ∀ k ∈ Dr, apB ops k i = true := fun k hk => by
              have h1 := hpw2.2.2 k hk i (by rw [← hAr]; simp)
              rcases h1.1 with h2 | h2
              · rw [hready i hi k (hunl k (List.mem_append_left _ hk))] at h2; cases h2
              · exact h2
            obtain ⟨a1, hf1, he1⟩ := c_out hsel ho Dr a hapD h
            obtain ⟨⟨o', ho', hg, hmR⟩, hrun1, _⟩ := hf1
            obtain rfl : o' = o := Option.some.inj (ho'.symm.trans ho)
            have hrun := runsAt_same he1.symm (hrun1 w hb (fun x hx => hs x hx) _ ho)
            have hni : i ∉ Dr := fun hm' => (hpw2.2.2 i hm' i (by rw [← hAr]; simp)).2.2 rfl
            refine runsAt_op ho hg hrun (fun v w' hv => ?_)
            have hm2 : Dr.length = m := by simp at hm; omega
            refine ccore1 (C := C) hCE (DA := D ++ A) hsel hD hS hsink hchain hseq m _ _ w' Dr (fun w => R v w) hm2 (inv.set hi hin) (fun j hj hjT => ?_) (hDr.trans (List.sublist_append_left ..)) hv.1 hv.2 (fun w1 w2 h12 h1 => hmR _ _ _ h12 h1) ?_
            · have := hset Dr [] (fun j' _ _ hji => by rw [← hAr]; simp [hji]) hni (by simp) j hj hjT
              simpa using this
            · refine wpC_mono ?_ _ _ (c_put hsel ho v Dr a hapD h)
              rintro a' ⟨a0, rfl, he0, hf0⟩
              exact fun w1 hw1 hs1 => hf0.2.2 _ ho v w1 hw1 hs1
          obtain ⟨⟨i', R'⟩, hmG, hii⟩ := List.mem_map.1 hmA
          simp only at hii
          subst hii
          obtain ⟨l1, l2, rfl⟩ := List.append_of_mem hmG
          have hAr' : Ar = l1.map Prod.fst ++ i' :: (l2.map Prod.fst ++ [iM]) := by rw [← hAr]; simp
          have hpw2 := List.pairwise_append.1 hpw
          have hapD : ∀ k ∈ Dr, apB ops k i' = true := fun k hk => by
            have h1 := hpw2.2.2 k hk i' (by rw [hAr']; simp)
            rcases h1.1 with h2 | h2
            · rw [hready i' hi k (hunl k (List.mem_append_left _ hk))] at h2; cases h2
            · exact h2
          have hapG : ∀ k ∈ l1, apB ops k.1 i' = true ∧ Region.waitsFor .any ops i' k.1 = false := fun k hk => by
            have hkm : k.1 ∈ l1.map Prod.fst := List.mem_map.2 ⟨k, hk, rfl⟩
            have hw := hready i' hi k.1 (hunl k.1 (List.mem_append_right _ (by rw [hAr']; exact List.mem_append_left _ hkm)))
            have h3 := hpw2.2.1
            rw [hAr'] at h3
            have h1 := (List.pairwise_append.1 h3).2.2 k.1 hkm i' (List.mem_cons_self ..)
            rcases h1.1 with h2 | h2
            · rw [hw] at h2; cases h2
            · exact ⟨h2, hw⟩
          have hpickG := fun (a' : Act) (hh : wpGen P ops W (fun a'' S' => CFin P C ops W Q T iM R a'' S') (l1 ++ (i', R') :: l2) a' S) => gen_pick hsel hF l1 a' S hapG hh
          obtain ⟨a1, hf1, he1⟩ := c_out hsel ho Dr a hapD h
          obtain ⟨o', ho', hg, hmR, hrun1, _⟩ := hpickG a1 hf1
          obtain rfl : o' = o := Option.some.inj (ho'.symm.trans ho)
          have hrun := runsAt_same he1.symm (hrun1 w hb (fun x hx _ => hs x hx))
          have hsl : (l1 ++ l2).Sublist (l1 ++ (i', R') :: l2) := (List.Sublist.refl l1).append (List.sublist_cons_self ..)
          have hni : i' ∉ Dr ∧ i' ∉ (l1 ++ l2).map Prod.fst ++ [iM] := by
            have h3 := hpw2.2.1
            rw [hAr'] at h3
            have h1 := List.pairwise_append.1 h3
            refine ⟨fun hm' => (hpw2.2.2 i' hm' i' (by rw [hAr']; simp)).2.2 rfl, fun hm' => ?_⟩
            rw [List.map_append, List.append_assoc] at hm'
            rcases List.mem_append.1 hm' with hm' | hm'
            · exact (h1.2.2 i' hm' i' (List.mem_cons_self ..)).2.2 rfl
            · exact ((List.pairwise_cons.1 h1.2.1).1 i' hm').2.2 rfl
          refine runsAt_op ho hg hrun (fun v w' hv => ?_)
          refine ih _ _ w' Dr (l1 ++ l2) ((i', R' v) :: S) (by simp at hm ⊢; omega) (inv.set hi hin) (hset _ _ (fun j _ _ hji => by rw [hAr']; simp [hji]) hni.1 hni.2) hDr (hsl.trans hGr)
            (ext_trans hb hv.1) (fun x hx => ?_) (fun x hx => ?_) ?_
          · rcases List.mem_cons.1 hx with rfl | hx
            · exact hv.2
            · exact hmono x hx _ _ hv.1 (hs x hx)
          · rcases List.mem_cons.1 hx with rfl | hx
            · exact fun w1 w2 h12 h1 => hmR _ _ _ h12 h1
            · exact hmono x hx
          · refine wpC_mono ?_ _ _ (c_put hsel ho v Dr a hapD h)
            rintro a' ⟨a0, rfl, he0, hf0⟩
            obtain ⟨o2, ho2, _, _, _, hr2⟩ := hpickG a0 hf0
            obtain rfl : o2 = o' := Option.some.inj (ho2.symm.trans ho)
            exact hr2 v
      · -- the tail waits
        exfalso
        have hin' : i ∈ T := by simpa using hin
        refine mtail_waits hsink hchain inv (L := Dr ++ Ar) hsub ?_ hunl (fun j hj hjT hju => ?_) i hin' hi
        · intro h0
          have := congrArg List.length h0
          simp only [List.length_append, List.length_nil] at this
          omega
        · exact List.mem_append.2 ((hun j hj hjT).1 hju)



/-- **A region that draws its order, walked once, where of some operations only a relation is known and one turns old memory.** -/
theorem wp_region_cls {id : Nat} {l : List Oper} {Q : Exit → Act → World → Prop} {a : Act} (hCE : ∀ a b, C a → Ext a b → C b) (hCW : C W) (Pre D : List Nat) (G : List (Nat × Rel)) (iM : Nat) (R : Rel) (T A : List Nat) (hA : G.map Prod.fst ++ [iM] = A) (hM : (G.all fun g => Region.waitsFor .any l.toArray iM g.1) = true) (hm : P.follows .mixedOrders = true) (hB : mixB l.toArray Pre D A T = true)
    (hQ : ∀ c a d v w, Q (.panic c) (Act.put a d v) w → Q (.panic c) a w)
    (h : wpPre P l.toArray (fun a0 => wpC P C l.toArray (fun a' => wpGen P l.toArray W (fun a'' S' => CFin P C l.toArray W Q T iM R a'' S') G a' []) D a0) Pre a) :
    (Code.region id l.toArray true).wp P Q a W := by
  subst hA
  simp only [mixB, Bool.and_eq_true, decide_eq_true_eq] at hB
  obtain ⟨⟨⟨⟨⟨⟨⟨⟨⟨⟨⟨hsel, hpre⟩, hp⟩, hs⟩, hk⟩, hch⟩, hsq⟩, hinv⟩, hsz⟩, htl⟩, hcov⟩, hlen⟩ := hB
  have hself := List.all_eq_true.1 hs
  refine wp_region_any hm ?_
  suffices key : wpAny P .any l.toArray Q (Pre.length + ((D.length + (G.map Prod.fst ++ [iM]).length) + T.length)) (Array.replicate l.toArray.size false) a { W with drawn := W.drawn + 1 } by
    rw [show Pre.length + ((D.length + (G.map Prod.fst ++ [iM]).length) + T.length) = l.toArray.size by omega] at key
    exact key
  refine wpAny_pre (fuel := (D.length + (G.map Prod.fst ++ [iM]).length) + T.length) hsel hQ Pre _ a hpre (wpPre_mono ?_ _ _ h)
  intro a0 h0
  refine ccore2 (C := C) hCE hCW (iM := iM) (R := R) (P := P) (ops := l.toArray) (W := W) (Q := Q) (D := D) (G := G) (T := T) (Region.noSelect_spec hsel) (pairsB_spec _ hp) hself (fun t r e => by subst e; exact hk) (fun g hg => by simpa using List.all_eq_true.1 hM g hg) hch hsq
    (D.length + (G.map Prod.fst ++ [iM]).length) _ a0 W.drew D G [] (by rw [List.length_append, List.length_map]; rfl) ⟨hsz, fun j oj hj hl e he hb => ?_, fun t ht hts => ?_⟩ (fun i hi hiT => ?_)
    (List.Sublist.refl _) (List.Sublist.refl _) (ext_drew (ext_refl _)) (fun _ hx => by cases hx) (fun _ hx => by cases hx) h0
  · have h1 := List.all_eq_true.1 hinv j (List.mem_range.2 (Array.getElem?_eq_some_iff.1 hj).1)
    simp only [hl, hj, Bool.not_true, Bool.false_or] at h1
    have h2 := (Array.all_eq_true'.1 h1) e he
    simpa [hb] using h2
  · have h1 := List.all_eq_true.1 htl t ht
    simp only [Bool.or_eq_true, Bool.not_eq_true', decide_eq_true_eq] at h1
    rcases h1 with h1 | h1
    · exact h1
    · omega
  · have h1 := List.all_eq_true.1 hcov i (List.mem_range.2 hi)
    simp only [Bool.or_eq_true, beq_iff_eq] at h1
    rcases h1 with h1 | h1
    · exact absurd (by simpa using h1) hiT
    · rw [h1]
      constructor
      · intro hh
        have h2 : (D ++ (G.map Prod.fst ++ [iM])).contains i = true := by simpa only [Bool.not_eq_false'] using hh
        simp only [List.contains_eq_mem, decide_eq_true_eq] at h2
        exact List.mem_append.1 h2
      · intro hh
        have h2 : (D ++ (G.map Prod.fst ++ [iM])).contains i = true := by
          simp only [List.contains_eq_mem, decide_eq_true_eq]
          exact List.mem_append.2 hh
        rw [h2]; rfl

end
end Go.Proofs.Ytiabmdboacpmcaa
/- As Gc; the operations that turn memory stand in a chain, each with a relation. -/
namespace Go.Proofs.Ytiabmdboacpmcaa
open Go Go.RowKit Go.Sort

section
variable {P : Program} {ops : Array Oper} {W : World} {C : World → Prop}
/-- operations in a chain: of each a relation, told of what the one before has left -/
def wpCh (P : Program) (C : World → Prop) (ops : Array Oper) (Fin : Act → (World → Prop) → Prop) : List (Nat × Rel) → Act → (World → Prop) → Prop
  | [], a, S => Fin a S
  | (i, R) :: l, a, S => ∃ o, ops[i]? = some o ∧ o.guard = none ∧ (∀ v w w', Ext w w' → R v w → R v w') ∧ (∀ w, C w → S w → runsAt P o a (fun v w' => C w' ∧ R v w') w) ∧ ∀ v, wpCh P C ops Fin l (a.put o.dst v) (R v)
theorem wpCh_nil {Fin : Act → (World → Prop) → Prop} {a : Act} {S : World → Prop} (h : Fin a S) : wpCh P C ops Fin [] a S := h
theorem wpCh_step {Fin : Act → (World → Prop) → Prop} {i : Nat} {R : Rel} {l : List (Nat × Rel)} {a : Act} {S : World → Prop} {o : Oper} (ho : ops[i]? = some o) (hg : o.guard = none) (hm : ∀ v w w', Ext w w' → R v w → R v w') (hr : ∀ w, C w → S w → runsAt P o a (fun v w' => C w' ∧ R v w') w)
    (h : ∀ v, wpCh P C ops Fin l (a.put o.dst v) (R v)) : wpCh P C ops Fin ((i, R) :: l) a S := ⟨o, ho, hg, hm, hr, h⟩
theorem dcore (hCE : ∀ a b, C a → Ext a b → C b) {Q : Exit → Act → World → Prop} {D T : List Nat} {M : List (Nat × Rel)} (hsel : ∀ (j : Nat) (o : Oper) cs b, ops[j]? = some o → o.op ≠ .select cs b)
    (hD : List.Pairwise (Pr ops) (D ++ M.map Prod.fst)) (hS : ∀ i ∈ D ++ M.map Prod.fst, mselfB ops T i = true) (hsink : ∀ t l, T = t :: l → sinkL ops t (D ++ M.map Prod.fst) = true) (hM : M.Pairwise fun x y => Region.waitsFor .any ops y.1 x.1 = true) (hchain : chainL ops T = true) (hseq : seqL ops T (mcanon ops T) = true) :
    ∀ (m : Nat) (listed : Array Bool) (a : Act) (w : World) (Dr : List Nat) (Mr : List (Nat × Rel)) (S : World → Prop), Dr.length + Mr.length = m → MInv ops T listed →
      (∀ i, i < ops.size → i ∉ T → (listed.getD i true = false ↔ i ∈ Dr ∨ i ∈ Mr.map Prod.fst)) → Dr.Sublist D → Mr.Sublist M → C w → S w →
      (∀ w w', Ext w w' → S w → S w') →
      wpC P C ops (fun a' => wpCh P C ops (fun a'' S' => ∀ w', C w' → S' w' → wpSeq P ops Q T a'' w') Mr a' S) Dr a →
      wpAny P .any ops Q (m + T.length) listed a w := by
  intro m
  induction m with
  | zero =>
    intro listed a w Dr Mr S hm inv hun hDr hMr hb hs hmono h
    obtain rfl : Dr = [] := List.eq_nil_of_length_eq_zero (by omega)
    obtain rfl : Mr = [] := List.eq_nil_of_length_eq_zero (by omega)
    exact ccore1 (C := C) hCE (DA := D ++ M.map Prod.fst) hsel hD hS hsink hchain hseq 0 listed a w [] S rfl inv (fun i h1 h2 => by rw [hun i h1 h2]; simp) (List.nil_sublist _) hb hs hmono h
  | succ m ih =>
    intro listed a w Dr Mr0 S hm inv hun hDr hMr hb hs hmono h
    cases Mr0 with
    | nil => exact ccore1 (C := C) hCE (DA := D ++ M.map Prod.fst) hsel hD hS hsink hchain hseq (m + 1) listed a w Dr S (by simpa using hm) inv (fun i h1 h2 => by rw [hun i h1 h2]; simp) (hDr.trans (List.sublist_append_left ..)) hb hs hmono h
    | cons x0 Mr =>
    rw [show m + 1 + T.length = (m + T.length) + 1 by omega]
    obtain ⟨Ar, hAr⟩ : ∃ Ar, (x0 :: Mr).map Prod.fst = Ar := ⟨_, rfl⟩
    obtain ⟨A, hA⟩ : ∃ A, M.map Prod.fst = A := ⟨_, rfl⟩
    have hlenA : Ar.length = Mr.length + 1 := by rw [← hAr, List.length_map]; rfl
    rw [hA] at hD hS hsink
    rw [hAr] at hun
    have hArs : Ar.Sublist A := by rw [← hAr, ← hA]; exact hMr.map _
    have hsub : (Dr ++ Ar).Sublist (D ++ A) := hDr.append hArs
    have hpw : List.Pairwise (Pr ops) (Dr ++ Ar) := hD.sublist hsub
    have hmem : ∀ i ∈ Dr ++ Ar, mselfB ops T i = true := fun i hi => hS i (hsub.subset hi)
    have hlt : ∀ i ∈ Dr ++ Ar, i < ops.size ∧ i ∉ T := fun i hi => by
      have := hmem i hi
      simp only [mselfB, Bool.and_eq_true, decide_eq_true_eq] at this
      exact this.1.2
    have hunl : ∀ i ∈ Dr ++ Ar, listed.getD i true = false := fun i hi => (hun i (hlt i hi).1 (hlt i hi).2).2 (List.mem_append.1 hi)
    -- what is ready does not wait for what has not come up
    have hready : ∀ i ∈ Region.ready .any ops listed, ∀ k, listed.getD k true = false → Region.waitsFor .any ops i k = false := fun i hi k hk => by
      cases hw : Region.waitsFor .any ops i k with
      | false => rfl
      | true =>
        obtain ⟨oj, hoj, e, he, hbd, hon⟩ := Region.waitsFor_spec hw
        obtain ⟨_, o, ho, hall⟩ := mem_ready.1 hi
        obtain rfl : o = oj := Option.some.inj (ho.symm.trans hoj)
        have := hall e he hbd
        rw [hon, getD_both hk] at this
        cases this
    constructor
    · -- the first of what is left is ready
      intro hnil
      exfalso
      obtain ⟨x, xs, hx⟩ : ∃ x xs, Dr ++ Ar = x :: xs := by
        cases hl : Dr ++ Ar with
        | nil => have := congrArg List.length hl; simp only [List.length_append, List.length_nil] at this; omega
        | cons x xs => exact ⟨x, xs, rfl⟩
      have hxm : x ∈ Dr ++ Ar := by rw [hx]; exact List.mem_cons_self ..
      have hsx := hmem x hxm
      have hself := hsx
      simp only [mselfB, Bool.and_eq_true, decide_eq_true_eq, Bool.not_eq_true'] at hsx
      obtain ⟨⟨hs1, hs2⟩, hs3⟩ := hsx
      cases ho : ops[x]? with
      | none => rw [ho] at hs3; cases hs3
      | some o =>
        rw [ho] at hs3
        have : x ∈ Region.ready .any ops listed := mem_ready.2 ⟨hunl x hxm, o, ho, fun e he hbd => by
          have h1 := (Array.all_eq_true'.1 hs3) e he
          simp only [hbd, Bool.not_true, Bool.false_or, decide_eq_true_eq] at h1
          cases hl : listed.getD e.on false with
          | true => rfl
          | false =>
            have hl' : listed.getD e.on true = false := getD_in (by rw [inv.size]; exact h1.1) hl
            have hin := (hun e.on h1.1 h1.2).1 hl'
            have hin' : e.on ∈ x :: xs := by rw [← hx]; exact List.mem_append.2 hin
            have hwt := waits_of ho he hbd rfl
            rcases List.mem_cons.1 hin' with hh | hh
            · rw [hh, hs1] at hwt; cases hwt
            · rw [hx] at hpw
              have := (List.pairwise_cons.1 hpw).1 _ hh
              rw [this.2.1] at hwt; cases hwt⟩
        rw [hnil] at this
        cases this
    · intro i hi
      have hiu := (mem_ready.1 hi).1
      obtain ⟨_, o, ho, _⟩ := mem_ready.1 hi
      have hisz : i < ops.size := (Array.getElem?_eq_some_iff.1 ho).1
      by_cases hin : i ∉ T
      · have hset : ∀ (X Y : List Nat), (∀ j, j < ops.size → j ∉ T → j ≠ i → ((j ∈ Dr ∨ j ∈ Ar) ↔ (j ∈ X ∨ j ∈ Y))) → i ∉ X → i ∉ Y → ∀ j, j < ops.size → j ∉ T → ((listed.setIfInBounds i true).getD j true = false ↔ j ∈ X ∨ j ∈ Y) := fun X Y hXY hX hY j hj hjT => by
          by_cases hji : i = j
          · subst hji
            have h1 : (listed.setIfInBounds i true).getD i true = true := by
              have : i < listed.size := by rw [inv.size]; exact hisz
              simp [this]
            rw [h1]
            simp [hX, hY]
          · rw [getD_set_ne true hji, hun j hj hjT, hXY j hj hjT (fun h => hji h.symm)]
        rcases (hun i hisz hin).1 hiu with hmD | hmA
        · obtain ⟨l1, l2, rfl⟩ := List.append_of_mem hmD
          have hpwD : List.Pairwise (Pr ops) (l1 ++ i :: l2) := hpw.sublist (List.sublist_append_left ..)
          have hap : ∀ k ∈ l1, apB ops k i = true := fun k hk => by
            have h1 := (List.pairwise_append.1 hpwD).2.2 k hk i (List.mem_cons_self ..)
            rcases h1.1 with h2 | h2
            · rw [hready i hi k (hunl k (List.mem_append_left _ (List.mem_append_left _ hk)))] at h2; cases h2
            · exact h2
          obtain ⟨o', v, ho', hy, hr⟩ := c_pick hsel l1 a hap h
          obtain rfl : o' = o := Option.some.inj (ho'.symm.trans ho)
          have hsl : (l1 ++ l2).Sublist (l1 ++ i :: l2) := (List.Sublist.refl l1).append (List.sublist_cons_self ..)
          have hni : i ∉ l1 ++ l2 ∧ i ∉ Ar := by
            have h1 := List.pairwise_append.1 hpwD
            refine ⟨fun hm' => ?_, fun hm' => ?_⟩
            · rcases List.mem_append.1 hm' with hm' | hm'
              · exact (h1.2.2 i hm' i (List.mem_cons_self ..)).2.2 rfl
              · exact ((List.pairwise_cons.1 h1.2.1).1 i hm').2.2 rfl
            · exact ((List.pairwise_append.1 hpw).2.2 i (by simp) i hm').2.2 rfl
          refine hy.op ho hb (fun w' hw' => ih _ _ w' (l1 ++ l2) (x0 :: Mr) S (by simp at hm ⊢; omega) (inv.set hi hin) (by rw [hAr]; exact hset _ _ (fun j _ _ hji => by simp [hji]) hni.1 hni.2) (hsl.trans hDr) hMr
            (hCE _ _ hb hw') (hmono _ _ hw' hs) hmono hr)
        · rw [← hAr] at hmA
          have hpw2 := List.pairwise_append.1 hpw
          obtain ⟨i0, R0⟩ := x0
          have hi0 : i = i0 := by
            rcases List.mem_cons.1 hmA with h1 | h1
            · exact h1
            · exfalso
              obtain ⟨y, hy, rfl⟩ := List.mem_map.1 h1
              have h2 := (List.pairwise_cons.1 (hM.sublist hMr)).1 y hy
              rw [hready y.1 hi i0 (hunl i0 (List.mem_append_right _ (by rw [← hAr]; exact List.mem_cons_self ..)))] at h2
              cases h2
          subst hi0
          have hapD : ∀ k ∈ Dr, apB ops k i = true := fun k hk => by
            have h1 := hpw2.2.2 k hk i (by rw [← hAr]; exact List.mem_cons_self ..)
            rcases h1.1 with h2 | h2
            · rw [hready i hi k (hunl k (List.mem_append_left _ hk))] at h2; cases h2
            · exact h2
          obtain ⟨a1, hf1, he1⟩ := c_out hsel ho Dr a hapD h
          obtain ⟨o', ho', hg, hmR, hrun1, _⟩ := hf1
          obtain rfl : o' = o := Option.some.inj (ho'.symm.trans ho)
          have hrun := runsAt_same he1.symm (hrun1 w hb hs)
          have hni : i ∉ Dr := fun hm' => (hpw2.2.2 i hm' i (by rw [← hAr]; exact List.mem_cons_self ..)).2.2 rfl
          have hni2 : i ∉ Mr.map Prod.fst := fun hm' => by
            have h3 := hpw2.2.1
            rw [← hAr] at h3
            exact ((List.pairwise_cons.1 h3).1 i hm').2.2 rfl
          refine runsAt_op ho hg hrun (fun v w' hv => ?_)
          refine ih _ _ w' Dr Mr (R0 v) (by simp at hm; omega) (inv.set hi hin) (hset _ _ (fun j _ _ hji => by rw [← hAr]; simp [hji]) hni hni2) hDr ((List.sublist_cons_self ..).trans hMr) hv.1 hv.2 (fun w1 w2 h12 h1 => hmR _ _ _ h12 h1) ?_
          refine wpC_mono ?_ _ _ (c_put hsel ho v Dr a hapD h)
          rintro a' ⟨a0, rfl, he0, hf0⟩
          obtain ⟨o2, ho2, _, _, _, hr2⟩ := hf0
          obtain rfl : o2 = o' := Option.some.inj (ho2.symm.trans ho)
          exact hr2 v
      · -- the tail waits
        exfalso
        have hin' : i ∈ T := by simpa using hin
        refine mtail_waits hsink hchain inv (L := Dr ++ Ar) hsub ?_ hunl (fun j hj hjT hju => ?_) i hin' hi
        · intro h0
          have := congrArg List.length h0
          simp only [List.length_append, List.length_nil] at this
          omega
        · exact List.mem_append.2 ((hun j hj hjT).1 hju)
/-- each waits for all ahead of it -/
def pwB (ops : Array Oper) : List Nat → Bool
  | [] => true
  | i :: l => (l.all fun k => Region.waitsFor .any ops k i) && pwB ops l
theorem pwB_spec {ops : Array Oper} : ∀ {M : List (Nat × Rel)}, pwB ops (M.map Prod.fst) = true → M.Pairwise fun x y => Region.waitsFor .any ops y.1 x.1 = true
  | [], _ => .nil
  | x :: M, h => by
    simp only [List.map_cons, pwB, Bool.and_eq_true, List.all_eq_true] at h
    exact List.pairwise_cons.2 ⟨fun y hy => h.1 y.1 (List.mem_map.2 ⟨y, hy, rfl⟩), pwB_spec h.2⟩
/-- **A region that draws its order, walked once, where of some operations only a relation is known and one turns old memory.** -/
theorem wp_region_chn {id : Nat} {l : List Oper} {Q : Exit → Act → World → Prop} {a : Act} (hCE : ∀ a b, C a → Ext a b → C b) (hCW : C W) (Pre D : List Nat) (M : List (Nat × Rel)) (T A : List Nat) (hA : M.map Prod.fst = A) (hM : pwB l.toArray A = true) (hm : P.follows .mixedOrders = true) (hB : mixB l.toArray Pre D A T = true)
    (hQ : ∀ c a d v w, Q (.panic c) (Act.put a d v) w → Q (.panic c) a w)
    (h : wpPre P l.toArray (fun a0 => wpC P C l.toArray (fun a' => wpCh P C l.toArray (fun a'' S' => ∀ w', C w' → S' w' → wpSeq P l.toArray Q T a'' w') M a' (fun _ => True)) D a0) Pre a) :
    (Code.region id l.toArray true).wp P Q a W := by
  subst hA
  simp only [mixB, Bool.and_eq_true, decide_eq_true_eq] at hB
  obtain ⟨⟨⟨⟨⟨⟨⟨⟨⟨⟨⟨hsel, hpre⟩, hp⟩, hs⟩, hk⟩, hch⟩, hsq⟩, hinv⟩, hsz⟩, htl⟩, hcov⟩, hlen⟩ := hB
  have hself := List.all_eq_true.1 hs
  refine wp_region_any hm ?_
  suffices key : wpAny P .any l.toArray Q (Pre.length + ((D.length + (M.map Prod.fst).length) + T.length)) (Array.replicate l.toArray.size false) a { W with drawn := W.drawn + 1 } by
    rw [show Pre.length + ((D.length + (M.map Prod.fst).length) + T.length) = l.toArray.size by omega] at key
    exact key
  refine wpAny_pre (fuel := (D.length + (M.map Prod.fst).length) + T.length) hsel hQ Pre _ a hpre (wpPre_mono ?_ _ _ h)
  intro a0 h0
  refine dcore (C := C) hCE (P := P) (ops := l.toArray) (Q := Q) (D := D) (M := M) (T := T) (Region.noSelect_spec hsel) (pairsB_spec _ hp) hself (fun t r e => by subst e; exact hk) (pwB_spec hM) hch hsq
    (D.length + (M.map Prod.fst).length) _ a0 W.drew D M (fun _ => True) (by rw [List.length_map]) ⟨hsz, fun j oj hj hl e he hb => ?_, fun t ht hts => ?_⟩ (fun i hi hiT => ?_)
    (List.Sublist.refl _) (List.Sublist.refl _) (hCE _ _ hCW (ext_drew (ext_refl _))) trivial (fun _ _ _ h => h) h0
  · have h1 := List.all_eq_true.1 hinv j (List.mem_range.2 (Array.getElem?_eq_some_iff.1 hj).1)
    simp only [hl, hj, Bool.not_true, Bool.false_or] at h1
    have h2 := (Array.all_eq_true'.1 h1) e he
    simpa [hb] using h2
  · have h1 := List.all_eq_true.1 htl t ht
    simp only [Bool.or_eq_true, Bool.not_eq_true', decide_eq_true_eq] at h1
    rcases h1 with h1 | h1
    · exact h1
    · omega
  · have h1 := List.all_eq_true.1 hcov i (List.mem_range.2 hi)
    simp only [Bool.or_eq_true, beq_iff_eq] at h1
    rcases h1 with h1 | h1
    · exact absurd (by simpa using h1) hiT
    · rw [h1]
      constructor
      · intro hh
        have h2 : (D ++ (M.map Prod.fst)).contains i = true := by simpa only [Bool.not_eq_false'] using hh
        simp only [List.contains_eq_mem, decide_eq_true_eq] at h2
        exact List.mem_append.1 h2
      · intro hh
        have h2 : (D ++ (M.map Prod.fst)).contains i = true := by
          simp only [List.contains_eq_mem, decide_eq_true_eq]
          exact List.mem_append.2 hh
        rw [h2]; rfl

end
end Go.Proofs.Ytiabmdboacpmcaa
/- As Gd: the operations that turn memory stand in a chain, each waits for the one ahead of it; what comes behind the last looks at no world. -/
namespace Go.Proofs.Ytiabmdboacpmcaa
open Go Go.RowKit Go.Sort

section
variable {P : Program} {ops : Array Oper} {W : World} {C : World → Prop}
/-- each waits for the one ahead of it -/
def stepB (ops : Array Oper) : List Nat → Bool
  | i :: j :: l => Region.waitsFor .any ops j i && stepB ops (j :: l)
  | _ => true
theorem stepB_tail {i : Nat} {l : List Nat} (h : stepB ops (i :: l) = true) : stepB ops l = true := by
  cases l with
  | nil => rfl
  | cons j l => simp only [stepB, Bool.and_eq_true] at h; exact h.2
theorem stepB_pred : ∀ {l : List Nat} {i x : Nat}, stepB ops (x :: l) = true → i ∈ l → ∃ k ∈ x :: l, Region.waitsFor .any ops i k = true
  | [], _, _, _, h => by cases h
  | y :: l, i, x, hs, hi => by
    simp only [stepB, Bool.and_eq_true] at hs
    rcases List.mem_cons.1 hi with rfl | hi
    · exact ⟨x, List.mem_cons_self .., hs.1⟩
    · obtain ⟨k, hk, h1⟩ := stepB_pred (x := y) hs.2 hi
      exact ⟨k, List.mem_cons_of_mem _ hk, h1⟩
/-- the last of a chain has come up: so has all of it -/
theorem stepB_un {T : List Nat} {listed : Array Bool} (inv : MInv ops T listed) : ∀ {l : List Nat} {x : Nat}, stepB ops (x :: l) = true → listed.getD x false = false → listed.getD ((x :: l).getLast (by simp)) false = false
  | [], _, _, h => h
  | y :: l, x, hs, h => by
    simp only [stepB, Bool.and_eq_true] at hs
    have := stepB_un inv (x := y) (l := l) hs.2 (waits_un inv hs.1 h)
    simpa [List.getLast_cons] using this
/-- what is asked -/
def evtB (ops : Array Oper) (Pre D A T : List Nat) : Bool :=
  Region.noSelect ops && preB ops Pre (Array.replicate ops.size false) && pairsB ops (D ++ A) && (D ++ A).all (mselfB ops T) && stepB ops A && D.all (fun d => A.any fun m => Region.waitsFor .any ops m d) &&
  T.all (fun t => match ops[t]? with | some o => o.after.any fun e => Region.binds .any e && (T.contains e.on || decide (A.getLast? = some e.on)) | none => false) && preB ops T (mcanon ops T) && decide (Region.ready .any ops (listedOf T (mcanon ops T)) = []) &&
  invB ops (listedOf Pre (Array.replicate ops.size false)) && decide ((listedOf Pre (Array.replicate ops.size false)).size = ops.size) && T.all (fun t => !(listedOf Pre (Array.replicate ops.size false)).getD t true || decide (ops.size ≤ t)) &&
  (List.range ops.size).all (fun i => T.contains i || ((listedOf Pre (Array.replicate ops.size false)).getD i true == !((D ++ A).contains i))) && decide (Pre.length + (D.length + A.length) + T.length = ops.size)
theorem ecore (hCE : ∀ a b, C a → Ext a b → C b) {Q : Exit → Act → World → Prop} {D T : List Nat} {M : List (Nat × Rel)} (hsel : ∀ (j : Nat) (o : Oper) cs b, ops[j]? = some o → o.op ≠ .select cs b)
    (hD : List.Pairwise (Pr ops) (D ++ M.map Prod.fst)) (hS : ∀ i ∈ D ++ M.map Prod.fst, mselfB ops T i = true) (hQ : ∀ c a d v w, Q (.panic c) (Act.put a d v) w → Q (.panic c) a w) (hsl : Region.noSelect ops = true) (hM : stepB ops (M.map Prod.fst) = true) (hDM : ∀ d ∈ D, ∃ m ∈ M.map Prod.fst, Region.waitsFor .any ops m d = true) (hT : ∀ t ∈ T, ∃ o, ops[t]? = some o ∧ ∃ e ∈ o.after, Region.binds .any e = true ∧ (e.on ∈ T ∨ (M.map Prod.fst).getLast? = some e.on)) (hpost : preB ops T (mcanon ops T) = true) (hend : Region.ready .any ops (listedOf T (mcanon ops T)) = []) :
    ∀ (m : Nat) (listed : Array Bool) (a : Act) (w : World) (Dr : List Nat) (Mr : List (Nat × Rel)) (S : World → Prop), Dr.length + Mr.length = m → MInv ops T listed →
      (∀ i, i < ops.size → i ∉ T → (listed.getD i true = false ↔ i ∈ Dr ∨ i ∈ Mr.map Prod.fst)) → Dr.Sublist D → Mr <:+ M → C w → S w →
      (∀ w w', Ext w w' → S w → S w') →
      wpC P C ops (fun a' => wpCh P C ops (fun a'' S' => ∀ w', C w' → S' w' → wpPre P ops (fun a3 => Q .normal a3 w') T a'') Mr a' S) Dr a →
      wpAny P .any ops Q (m + T.length) listed a w := by
  have hMA := hM
  intro m
  induction m with
  | zero =>
    intro listed a w Dr Mr S hm inv hun hDr hMr hb hs hmono h
    obtain rfl : Dr = [] := List.eq_nil_of_length_eq_zero (by omega)
    obtain rfl : Mr = [] := List.eq_nil_of_length_eq_zero (by omega)
    have h' : wpPre P ops (fun a3 => Q .normal a3 w) T a := h w hb hs
    have hc : listed = mcanon ops T := by
      apply Array.ext_getElem?
      intro i
      by_cases hi : i < ops.size
      · have hl : i < listed.size := by rw [inv.size]; exact hi
        by_cases hin : i ∈ T
        · have h1 := inv.tail i hin hi
          simp [mcanon, hi, hin, hl] at h1 ⊢
          exact h1
        · have h1 := hun i hi hin
          simp only [List.map_nil, List.not_mem_nil, or_self, iff_false, Bool.not_eq_false] at h1
          simp [mcanon, hi, hin, hl] at h1 ⊢
          exact h1
      · rw [Array.getElem?_eq_none (by rw [inv.size]; omega), Array.getElem?_eq_none (by simp [mcanon]; omega)]
    rw [hc, Nat.zero_add]
    exact wpAny_pre (fuel := 0) hsl hQ T _ a hpost (wpPre_mono (fun a3 h3 => ⟨hend, h3⟩) _ _ h')
  | succ m ih =>
    intro listed a w Dr Mr0 S hm inv hun hDr hMr hb hs hmono h
    cases Mr0 with
    | nil =>
      exfalso
      cases Dr with
      | nil => simp at hm
      | cons d Dr =>
        have hd := hDr.subset (List.mem_cons_self ..)
        obtain ⟨mm, hmm, hw⟩ := hDM d hd
        have hself := hS d (List.mem_append_left _ hd)
        have hself2 := hS mm (List.mem_append_right _ hmm)
        simp only [mselfB, Bool.and_eq_true, decide_eq_true_eq] at hself hself2
        have hdu := (hun d hself.1.2.1 hself.1.2.2).2 (.inl (List.mem_cons_self ..))
        have hmu : listed.getD mm true = false := by
          have h5 := waits_un inv hw (getD_both hdu)
          have h6 : mm < listed.size := by rw [inv.size]; exact hself2.1.2.1
          simpa [h6] using h5
        have h7 := (hun mm hself2.1.2.1 hself2.1.2.2).1 hmu
        rcases h7 with h7 | h7
        · obtain ⟨l1, l2, he⟩ := List.append_of_mem (hDr.subset h7)
          have h8 := List.pairwise_append.1 hD
          exact (h8.2.2 mm (by rw [he]; simp) mm hmm).2.2 rfl
        · simp at h7
    | cons x0 Mr =>
    rw [show m + 1 + T.length = (m + T.length) + 1 by omega]
    obtain ⟨Ar, hAr⟩ : ∃ Ar, (x0 :: Mr).map Prod.fst = Ar := ⟨_, rfl⟩
    obtain ⟨A, hA⟩ : ∃ A, M.map Prod.fst = A := ⟨_, rfl⟩
    have hlenA : Ar.length = Mr.length + 1 := by rw [← hAr, List.length_map]; rfl
    rw [hA] at hD hS
    rw [hAr] at hun
    have hArs : Ar.Sublist A := by rw [← hAr, ← hA]; exact hMr.sublist.map _
    have hsub : (Dr ++ Ar).Sublist (D ++ A) := hDr.append hArs
    have hpw : List.Pairwise (Pr ops) (Dr ++ Ar) := hD.sublist hsub
    have hmem : ∀ i ∈ Dr ++ Ar, mselfB ops T i = true := fun i hi => hS i (hsub.subset hi)
    have hlt : ∀ i ∈ Dr ++ Ar, i < ops.size ∧ i ∉ T := fun i hi => by
      have := hmem i hi
      simp only [mselfB, Bool.and_eq_true, decide_eq_true_eq] at this
      exact this.1.2
    have hunl : ∀ i ∈ Dr ++ Ar, listed.getD i true = false := fun i hi => (hun i (hlt i hi).1 (hlt i hi).2).2 (List.mem_append.1 hi)
    -- what is ready does not wait for what has not come up
    have hready : ∀ i ∈ Region.ready .any ops listed, ∀ k, listed.getD k true = false → Region.waitsFor .any ops i k = false := fun i hi k hk => by
      cases hw : Region.waitsFor .any ops i k with
      | false => rfl
      | true =>
        obtain ⟨oj, hoj, e, he, hbd, hon⟩ := Region.waitsFor_spec hw
        obtain ⟨_, o, ho, hall⟩ := mem_ready.1 hi
        obtain rfl : o = oj := Option.some.inj (ho.symm.trans hoj)
        have := hall e he hbd
        rw [hon, getD_both hk] at this
        cases this
    constructor
    · -- the first of what is left is ready
      intro hnil
      exfalso
      obtain ⟨x, xs, hx⟩ : ∃ x xs, Dr ++ Ar = x :: xs := by
        cases hl : Dr ++ Ar with
        | nil => have := congrArg List.length hl; simp only [List.length_append, List.length_nil] at this; omega
        | cons x xs => exact ⟨x, xs, rfl⟩
      have hxm : x ∈ Dr ++ Ar := by rw [hx]; exact List.mem_cons_self ..
      have hsx := hmem x hxm
      have hself := hsx
      simp only [mselfB, Bool.and_eq_true, decide_eq_true_eq, Bool.not_eq_true'] at hsx
      obtain ⟨⟨hs1, hs2⟩, hs3⟩ := hsx
      cases ho : ops[x]? with
      | none => rw [ho] at hs3; cases hs3
      | some o =>
        rw [ho] at hs3
        have : x ∈ Region.ready .any ops listed := mem_ready.2 ⟨hunl x hxm, o, ho, fun e he hbd => by
          have h1 := (Array.all_eq_true'.1 hs3) e he
          simp only [hbd, Bool.not_true, Bool.false_or, decide_eq_true_eq] at h1
          cases hl : listed.getD e.on false with
          | true => rfl
          | false =>
            have hl' : listed.getD e.on true = false := getD_in (by rw [inv.size]; exact h1.1) hl
            have hin := (hun e.on h1.1 h1.2).1 hl'
            have hin' : e.on ∈ x :: xs := by rw [← hx]; exact List.mem_append.2 hin
            have hwt := waits_of ho he hbd rfl
            rcases List.mem_cons.1 hin' with hh | hh
            · rw [hh, hs1] at hwt; cases hwt
            · rw [hx] at hpw
              have := (List.pairwise_cons.1 hpw).1 _ hh
              rw [this.2.1] at hwt; cases hwt⟩
        rw [hnil] at this
        cases this
    · intro i hi
      have hiu := (mem_ready.1 hi).1
      obtain ⟨_, o, ho, _⟩ := mem_ready.1 hi
      have hisz : i < ops.size := (Array.getElem?_eq_some_iff.1 ho).1
      by_cases hin : i ∉ T
      · have hset : ∀ (X Y : List Nat), (∀ j, j < ops.size → j ∉ T → j ≠ i → ((j ∈ Dr ∨ j ∈ Ar) ↔ (j ∈ X ∨ j ∈ Y))) → i ∉ X → i ∉ Y → ∀ j, j < ops.size → j ∉ T → ((listed.setIfInBounds i true).getD j true = false ↔ j ∈ X ∨ j ∈ Y) := fun X Y hXY hX hY j hj hjT => by
          by_cases hji : i = j
          · subst hji
            have h1 : (listed.setIfInBounds i true).getD i true = true := by
              have : i < listed.size := by rw [inv.size]; exact hisz
              simp [this]
            rw [h1]
            simp [hX, hY]
          · rw [getD_set_ne true hji, hun j hj hjT, hXY j hj hjT (fun h => hji h.symm)]
        rcases (hun i hisz hin).1 hiu with hmD | hmA
        · obtain ⟨l1, l2, rfl⟩ := List.append_of_mem hmD
          have hpwD : List.Pairwise (Pr ops) (l1 ++ i :: l2) := hpw.sublist (List.sublist_append_left ..)
          have hap : ∀ k ∈ l1, apB ops k i = true := fun k hk => by
            have h1 := (List.pairwise_append.1 hpwD).2.2 k hk i (List.mem_cons_self ..)
            rcases h1.1 with h2 | h2
            · rw [hready i hi k (hunl k (List.mem_append_left _ (List.mem_append_left _ hk)))] at h2; cases h2
            · exact h2
          obtain ⟨o', v, ho', hy, hr⟩ := c_pick hsel l1 a hap h
          obtain rfl : o' = o := Option.some.inj (ho'.symm.trans ho)
          have hsl : (l1 ++ l2).Sublist (l1 ++ i :: l2) := (List.Sublist.refl l1).append (List.sublist_cons_self ..)
          have hni : i ∉ l1 ++ l2 ∧ i ∉ Ar := by
            have h1 := List.pairwise_append.1 hpwD
            refine ⟨fun hm' => ?_, fun hm' => ?_⟩
            · rcases List.mem_append.1 hm' with hm' | hm'
              · exact (h1.2.2 i hm' i (List.mem_cons_self ..)).2.2 rfl
              · exact ((List.pairwise_cons.1 h1.2.1).1 i hm').2.2 rfl
            · exact ((List.pairwise_append.1 hpw).2.2 i (by simp) i hm').2.2 rfl
          refine hy.op ho hb (fun w' hw' => ih _ _ w' (l1 ++ l2) (x0 :: Mr) S (by simp at hm ⊢; omega) (inv.set hi hin) (by rw [hAr]; exact hset _ _ (fun j _ _ hji => by simp [hji]) hni.1 hni.2) (hsl.trans hDr) hMr
            (hCE _ _ hb hw') (hmono _ _ hw' hs) hmono hr)
        · rw [← hAr] at hmA
          have hpw2 := List.pairwise_append.1 hpw
          obtain ⟨i0, R0⟩ := x0
          have hi0 : i = i0 := by
            rcases List.mem_cons.1 hmA with h1 | h1
            · exact h1
            · exfalso
              obtain ⟨y, hy, rfl⟩ := List.mem_map.1 h1
              have hst : stepB ops (((i0, R0) :: Mr).map Prod.fst) = true := by
                obtain ⟨pre, hpre⟩ := hMr
                have h2 := hMA
                rw [← hpre, List.map_append] at h2
                clear hpre
                generalize (pre.map Prod.fst) = pl at h2
                induction pl with
                | nil => exact h2
                | cons p pl ih2 => exact ih2 (stepB_tail h2)
              obtain ⟨k, hk, hwk⟩ := stepB_pred hst (List.mem_map.2 ⟨y, hy, rfl⟩)
              rw [hready y.1 hi k (hunl k (List.mem_append_right _ (by rw [← hAr]; exact hk)))] at hwk
              cases hwk
          subst hi0
          have hapD : ∀ k ∈ Dr, apB ops k i = true := fun k hk => by
            have h1 := hpw2.2.2 k hk i (by rw [← hAr]; exact List.mem_cons_self ..)
            rcases h1.1 with h2 | h2
            · rw [hready i hi k (hunl k (List.mem_append_left _ hk))] at h2; cases h2
            · exact h2
          obtain ⟨a1, hf1, he1⟩ := c_out hsel ho Dr a hapD h
          obtain ⟨o', ho', hg, hmR, hrun1, _⟩ := hf1
          obtain rfl : o' = o := Option.some.inj (ho'.symm.trans ho)
          have hrun := runsAt_same he1.symm (hrun1 w hb hs)
          have hni : i ∉ Dr := fun hm' => (hpw2.2.2 i hm' i (by rw [← hAr]; exact List.mem_cons_self ..)).2.2 rfl
          have hni2 : i ∉ Mr.map Prod.fst := fun hm' => by
            have h3 := hpw2.2.1
            rw [← hAr] at h3
            exact ((List.pairwise_cons.1 h3).1 i hm').2.2 rfl
          refine runsAt_op ho hg hrun (fun v w' hv => ?_)
          refine ih _ _ w' Dr Mr (R0 v) (by simp at hm; omega) (inv.set hi hin) (hset _ _ (fun j _ _ hji => by rw [← hAr]; simp [hji]) hni hni2) hDr ((List.suffix_cons _ _).trans hMr) hv.1 hv.2 (fun w1 w2 h12 h1 => hmR _ _ _ h12 h1) ?_
          refine wpC_mono ?_ _ _ (c_put hsel ho v Dr a hapD h)
          rintro a' ⟨a0, rfl, he0, hf0⟩
          obtain ⟨o2, ho2, _, _, _, hr2⟩ := hf0
          obtain rfl : o2 = o' := Option.some.inj (ho2.symm.trans ho)
          exact hr2 v
      · -- the tail waits
        exfalso
        have hin' : i ∈ T := by simpa using hin
        obtain ⟨o', ho', e, he, hbd, hor⟩ := hT i hin'
        obtain ⟨_, oi, hoi, hall⟩ := mem_ready.1 hi
        obtain rfl : oi = o' := Option.some.inj (hoi.symm.trans ho')
        have hl := hall e he hbd
        rcases hor with h1 | h1
        · have h2 : e.on < ops.size := Classical.byContradiction fun h3 => by
            have : listed.getD e.on false = false := by
              have h4 : ¬ e.on < listed.size := by rw [inv.size]; exact h3
              simp [h4]
            rw [this] at hl
            cases hl
          have h3 := inv.tail e.on h1 h2
          rw [getD_both h3] at hl
          cases hl
        · -- the last of the chain
          have hx0 : listed.getD x0.1 true = false := hunl x0.1 (List.mem_append_right _ (by rw [← hAr]; exact List.mem_cons_self ..))
          have hst : stepB ops ((x0 :: Mr).map Prod.fst) = true ∧ ((x0 :: Mr).map Prod.fst).getLast? = some e.on := by
            obtain ⟨pre, hpre⟩ := hMr
            have h2 := hMA
            have h3 := h1
            rw [← hpre, List.map_append] at h2 h3
            refine ⟨?_, ?_⟩
            · clear h3 hpre
              generalize (pre.map Prod.fst) = pl at h2
              induction pl with
              | nil => exact h2
              | cons p pl ih2 => exact ih2 (stepB_tail h2)
            · rw [List.getLast?_append] at h3
              simpa using h3
          have h4 := stepB_un inv (l := Mr.map Prod.fst) (x := x0.1) hst.1 (getD_both hx0)
          have h5 : (x0.1 :: Mr.map Prod.fst).getLast (by simp) = e.on := by
            have h6 := hst.2
            rw [List.map_cons, List.getLast?_eq_some_getLast (by simp)] at h6
            exact Option.some.inj h6
          rw [h5, hl] at h4
          cases h4
/-- **A region that draws its order, walked once, where of some operations only a relation is known and one turns old memory.** -/
theorem wp_region_evt {id : Nat} {l : List Oper} {Q : Exit → Act → World → Prop} {a : Act} (hCE : ∀ a b, C a → Ext a b → C b) (hCW : C W) (Pre D : List Nat) (M : List (Nat × Rel)) (T A : List Nat) (hA : M.map Prod.fst = A) (hm : P.follows .mixedOrders = true) (hB : evtB l.toArray Pre D A T = true)
    (hQ : ∀ c a d v w, Q (.panic c) (Act.put a d v) w → Q (.panic c) a w)
    (h : wpPre P l.toArray (fun a0 => wpC P C l.toArray (fun a' => wpCh P C l.toArray (fun a'' S' => ∀ w', C w' → S' w' → wpPre P l.toArray (fun a3 => Q .normal a3 w') T a'') M a' (fun _ => True)) D a0) Pre a) :
    (Code.region id l.toArray true).wp P Q a W := by
  subst hA
  simp only [evtB, Bool.and_eq_true, decide_eq_true_eq] at hB
  obtain ⟨⟨⟨⟨⟨⟨⟨⟨⟨⟨⟨⟨⟨hsel, hpre⟩, hp⟩, hs⟩, hst⟩, hdm⟩, htt⟩, hpost⟩, hend⟩, hinv⟩, hsz⟩, htl⟩, hcov⟩, hlen⟩ := hB
  have hself := List.all_eq_true.1 hs
  refine wp_region_any hm ?_
  suffices key : wpAny P .any l.toArray Q (Pre.length + ((D.length + (M.map Prod.fst).length) + T.length)) (Array.replicate l.toArray.size false) a { W with drawn := W.drawn + 1 } by
    rw [show Pre.length + ((D.length + (M.map Prod.fst).length) + T.length) = l.toArray.size by omega] at key
    exact key
  refine wpAny_pre (fuel := (D.length + (M.map Prod.fst).length) + T.length) hsel hQ Pre _ a hpre (wpPre_mono ?_ _ _ h)
  intro a0 h0
  refine ecore (C := C) hCE (P := P) (ops := l.toArray) (Q := Q) (D := D) (M := M) (T := T) (Region.noSelect_spec hsel) (pairsB_spec _ hp) hself hQ hsel hst (fun d hd => ?_) (fun t ht => ?_) hpost hend
    (D.length + (M.map Prod.fst).length) _ a0 W.drew D M (fun _ => True) (by rw [List.length_map]) ⟨hsz, fun j oj hj hl e he hb => ?_, fun t ht hts => ?_⟩ (fun i hi hiT => ?_)
    (List.Sublist.refl _) (List.suffix_refl _) (hCE _ _ hCW (ext_drew (ext_refl _))) trivial (fun _ _ _ h => h) h0
  · have h1 := List.all_eq_true.1 hdm d hd
    obtain ⟨mm, h2, h3⟩ := List.any_eq_true.1 h1
    exact ⟨mm, h2, h3⟩
  · have h1 := List.all_eq_true.1 htt t ht
    cases ho : l.toArray[t]? with
    | none => rw [ho] at h1; cases h1
    | some o =>
      rw [ho] at h1
      obtain ⟨i, hi, h2⟩ := Array.any_eq_true.1 h1
      simp only [Bool.and_eq_true, Bool.or_eq_true, List.contains_eq_mem, decide_eq_true_eq] at h2
      exact ⟨o, rfl, _, Array.getElem_mem hi, h2.1, h2.2⟩
  · have h1 := List.all_eq_true.1 hinv j (List.mem_range.2 (Array.getElem?_eq_some_iff.1 hj).1)
    simp only [hl, hj, Bool.not_true, Bool.false_or] at h1
    have h2 := (Array.all_eq_true'.1 h1) e he
    simpa [hb] using h2
  · have h1 := List.all_eq_true.1 htl t ht
    simp only [Bool.or_eq_true, Bool.not_eq_true', decide_eq_true_eq] at h1
    rcases h1 with h1 | h1
    · exact h1
    · omega
  · have h1 := List.all_eq_true.1 hcov i (List.mem_range.2 hi)
    simp only [Bool.or_eq_true, beq_iff_eq] at h1
    rcases h1 with h1 | h1
    · exact absurd (by simpa using h1) hiT
    · rw [h1]
      constructor
      · intro hh
        have h2 : (D ++ (M.map Prod.fst)).contains i = true := by simpa only [Bool.not_eq_false'] using hh
        simp only [List.contains_eq_mem, decide_eq_true_eq] at h2
        exact List.mem_append.1 h2
      · intro hh
        have h2 : (D ++ (M.map Prod.fst)).contains i = true := by
          simp only [List.contains_eq_mem, decide_eq_true_eq]
          exact List.mem_append.2 hh
        rw [h2]; rfl

end
end Go.Proofs.Ytiabmdboacpmcaa
