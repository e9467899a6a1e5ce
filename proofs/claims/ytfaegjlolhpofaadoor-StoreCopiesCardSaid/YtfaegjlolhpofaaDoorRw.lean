/- Rows of keys in memory; copy, clear and append on them. -/
import Derived.Test.YtfaegjlolhpofaaDoorFree
import Derived.Laws.CopyOwn
import Derived.Lib.AppendZerosOnto
import Derived.Lib.SliceRun
import Derived.OwnWalk
namespace Go.Proofs.YtfaegjlolhpofaaDoor
open Go Go.RowKit Go.Sort

/-- Of what was there only blocks of fp have turned; blocks may have been made. -/
structure Upd (fp : Nat → Prop) (w w' : World) : Prop where
  os : w'.os = w.os
  tape : w'.tape = w.tape
  output : w'.output = w.output
  size : w.heap.size ≤ w'.heap.size
  block : ∀ k, k < w.heap.size → ¬ fp k → w'.heap[k]? = w.heap[k]?

theorem upd_of_ext {fp : Nat → Prop} {w w' : World} (h : Ext w w') : Upd fp w w' := ⟨Below.os h, Below.tape h, Below.output h, Below.size h, fun k hk _ => Below.block h k hk⟩
theorem ext_of_upd {w w' : World} (h : Upd (fun _ => False) w w') : Ext w w' := ⟨h.os, h.tape, h.output, h.size, fun k hk => h.block k hk (fun h => h)⟩
theorem upd_refl {fp : Nat → Prop} {w : World} : Upd fp w w := upd_of_ext (ext_refl _)
theorem upd_trans {fp fp' : Nat → Prop} {a b c : World} (h : Upd fp a b) (k : Upd fp' b c) (hf : ∀ i, i < a.heap.size → fp' i → fp i) : Upd fp a c :=
  ⟨k.os.trans h.os, k.tape.trans h.tape, k.output.trans h.output, Nat.le_trans h.size k.size, fun i hi hn => (k.block i (Nat.lt_of_lt_of_le hi h.size) (fun hh => hn (hf i hi hh))).trans (h.block i hi hn)⟩
theorem upd_mono {fp fp' : Nat → Prop} {a b : World} (h : Upd fp a b) (hf : ∀ i, i < a.heap.size → fp i → fp' i) : Upd fp' a b := ⟨h.os, h.tape, h.output, h.size, fun i hi hn => h.block i hi (fun hh => hn (hf i hi hh))⟩
theorem upd_grown {w w' : World} {row : Option Nat} (h : w.grownBy w' row) : Upd (fun b => row = some b) w w' := ⟨h.os, h.tape, h.output, h.size, fun k hk hn => h.block k hk (fun e => hn e.symm)⟩
theorem upd_cell {fp : Nat → Prop} {w w' : World} (h : Upd fp w w') {b : Nat} (hb : b < w.heap.size) (hn : ¬ fp b) (o : Nat) : w'.cell? ⟨b, o, none⟩ = w.cell? ⟨b, o, none⟩ := World.cell?_of_block (w := w) (a := ⟨b, o, none⟩) (h.block b hb hn)
theorem upd_setRow {w : World} {g : Nat} (cs : Array Value) : Upd (fun b => b = g) w (w.setRow g cs) := ⟨rfl, rfl, rfl, by simp, fun k _ hn => setRow_other w g k cs hn⟩
theorem upd_setCell {w : World} {a : Addr} (u : Value) : Upd (fun b => b = a.block) w (w.setCell a u) := ⟨rfl, rfl, rfl, by simp [World.setCell], fun k _ hn => Below.heap_setCell _ _ _ _ hn⟩
/-- what a row owns is kept -/
theorem row_upd {fp : Nat → Prop} {w w' : World} {base : Nat} {e : TypeId} {size : Nat} {v : Value} {n : Nat} {xs : List Value} (h : w.ownsRow base e size v n xs) (hu : Upd fp w w') (hn : ∀ b, v.ownBlock = some b → ¬ fp b) : w'.ownsRow base e size v n xs := by
  refine ⟨h.1, ?_⟩
  rcases h.2 with hh | ⟨g, cap, cur, rfl, hb, hgg, rest⟩
  · exact .inl hh
  · exact .inr ⟨g, cap, cur, rfl, hb, (hu.block g (block_lt hgg) (hn g rfl)).trans hgg, rest⟩
theorem row_ext {w w' : World} {base : Nat} {e : TypeId} {size : Nat} {v : Value} {n : Nat} {xs : List Value} (h : w.ownsRow base e size v n xs) (hu : Ext w w') : w'.ownsRow base e size v n xs := row_upd h (upd_of_ext (fp := fun _ => False) hu) (fun _ _ h => h)

section
variable {P : Program} (w : World)
/-- copy, of elements of any size -/
theorem run_copy_any (dT sT ty elem : TypeId) (i : TypeInfo) (g o dLen dCap : Nat) (a : Addr) (sLen sCap : Nat) (cur : Array Value) (t : TypeId) (cs : List Value)
    (hu : P.underlying dT = some (.slice elem)) (hi : P.info? elem = some i) (hg : w.heap[g]? = some (.cells cur t (0, 0))) (hn : cs.length = (Nat.min sLen dLen) * i.size)
    (hsrc : ∀ j v, cs[j]? = some v → w.cell? (a.add j) = some v) (hfit : o + cs.length ≤ cur.size) (h1 : ∀ v ∈ cs, v.oneCell' = true) :
    (Builtin.copy_ #[dT, sT] ty #[.slice (some ⟨g, o, none⟩) dLen dCap, .slice (some a) sLen sCap]).run P w =
      .ok (goInt (Nat.min sLen dLen)) (w.setRow g (splice cur.toList o cs).toArray) := by
  have hf := run_firstCells_some (P := P) w i.size (Nat.min sLen dLen) a sLen sCap cs hn hsrc
  have hst := run_storeCells_at P g o t cs 0 cur w hg (by simpa using hfit) h1
  simp only [Nat.add_zero] at hst
  simp [Builtin.copy_, run_underlying hu, Builtin.lenOf, sizeOf, typeInfo, hi, hf, hst, splice]

theorem run_clear_any (t e ty : TypeId) (z : Value) (ht : P.underlying t = some (.slice e)) (hv : ∀ w, (zeroValue e).run P w = .ok z w) (g o n c : Nat) (cur : Array Value) (et : TypeId) (hg : w.heap[g]? = some (.cells cur et (0, 0)))
    (hfit : o + (Builtin.zeroCells z.cells n).toList.length ≤ cur.size) (h1 : ∀ v ∈ (Builtin.zeroCells z.cells n).toList, v.oneCell' = true) (hn : 0 < n) :
    (Builtin.clear_ #[t] ty #[.slice (some ⟨g, o, none⟩) n c]).run P w = .ok (.tuple #[]) (w.setRow g (splice cur.toList o (Builtin.zeroCells z.cells n).toList).toArray) := by
  have hst := run_storeCells_at P g o et (Builtin.zeroCells z.cells n).toList 0 cur w hg (by simpa using hfit) h1
  simp only [Nat.add_zero] at hst
  obtain ⟨m, rfl⟩ : ∃ m, n = m + 1 := ⟨n - 1, by omega⟩
  simp [Builtin.clear_, run_underlying ht, hv, hst, splice]

theorem wpList_copy_any {ops : Array Oper} {rest : List Oper} {o : Oper} {a : Act} {Q : Exit → Act → World → Prop} (hgd : o.guard = none) (d s : Operand) (dT sT : TypeId)
    (ho : o.op = .call { callee := .builtin .copy, args := #[d, s], argTypes := #[dT, sT] }) (elem : TypeId) (i : TypeInfo) (hu : P.underlying dT = some (.slice elem)) (hi : P.info? elem = some i)
    (g off dLen dCap : Nat) (ad : Addr) (sLen sCap : Nat) (hd : a.eval d = .slice (some ⟨g, off, none⟩) dLen dCap) (hs : a.eval s = .slice (some ad) sLen sCap)
    (cur : Array Value) (t : TypeId) (hg : w.heap[g]? = some (.cells cur t (0, 0))) (cs : List Value) (hn : cs.length = (Nat.min sLen dLen) * i.size)
    (hsrc : ∀ j v, cs[j]? = some v → w.cell? (ad.add j) = some v) (hfit : off + cs.length ≤ cur.size) (h1 : ∀ v ∈ cs, v.oneCell' = true)
    (h : wpList P ops Q rest (a.put o.dst (goInt (Nat.min sLen dLen))) (w.setRow g (splice cur.toList off cs).toArray)) : wpList P ops Q (o :: rest) a w := by
  refine wpList_plain hgd fun K hK => ?_
  have hrun := run_copy_any (P := P) w dT sT o.type elem i g off dLen dCap ad sLen sCap cur t cs hu hi hg hn hsrc hfit h1
  unfold Oper.wp
  simp [execOp, ho, resolve, invoke, builtin, hd, hs, hrun, Result.andThen]
  exact hK _ _ h

theorem wpList_clear_any {ops : Array Oper} {rest : List Oper} {o : Oper} {a : Act} {Q : Exit → Act → World → Prop} (hgd : o.guard = none) (x : Operand) (t : TypeId)
    (ho : o.op = .call { callee := .builtin .clear, args := #[x], argTypes := #[t] }) (e : TypeId) (z : Value) (ht : P.underlying t = some (.slice e)) (hv : ∀ w, (zeroValue e).run P w = .ok z w)
    (g off n c : Nat) (hx : a.eval x = .slice (some ⟨g, off, none⟩) n c) (cur : Array Value) (et : TypeId) (hg : w.heap[g]? = some (.cells cur et (0, 0)))
    (hfit : off + (Builtin.zeroCells z.cells n).toList.length ≤ cur.size) (h1 : ∀ v ∈ (Builtin.zeroCells z.cells n).toList, v.oneCell' = true) (hn : 0 < n)
    (h : wpList P ops Q rest (a.put o.dst (.tuple #[])) (w.setRow g (splice cur.toList off (Builtin.zeroCells z.cells n).toList).toArray)) : wpList P ops Q (o :: rest) a w := by
  refine wpList_plain hgd fun K hK => ?_
  have hrun := run_clear_any (P := P) w t e o.type z ht hv g off n c cur et hg hfit h1 hn
  unfold Oper.wp
  simp [execOp, ho, resolve, invoke, builtin, hx, hrun, Result.andThen]
  exact hK _ _ h

/-- append, where there is room, of cells that may lie in the same row -/
theorem wpList_append_room {ops : Array Oper} {rest : List Oper} {o : Oper} {a : Act} {Q : Exit → Act → World → Prop} (hgd : o.guard = none) (s x : Operand) (t : TypeId)
    (ho : o.op = .call { callee := .builtin .append, args := #[s, x], argTypes := #[t, t] }) (e : TypeId) (i : TypeInfo) (ht : P.underlying t = some (.slice e)) (hi : P.info? e = some i)
    (g sLen sCap : Nat) (hs : a.eval s = .slice (some ⟨g, 0, none⟩) sLen sCap) (cur : Array Value) (hg : w.heap[g]? = some (.cells cur e (0, 0)))
    (ad : Addr) (m c : Nat) (news : List Value) (hx : a.eval x = .slice (some ad) m c) (hl : news.length = m * i.size) (hnews : ∀ j u, news[j]? = some u → w.cell? (ad.add j) = some u) (h1 : ∀ u ∈ news, u.oneCell' = true)
    (hroom : sLen + m ≤ sCap) (hfit : sLen * i.size + news.length ≤ cur.size) (N : Nat) (hN : sLen + m = N)
    (h : wpList P ops Q rest (a.put o.dst (.slice (some ⟨g, 0, none⟩) N sCap)) (w.setRow g (splice cur.toList (sLen * i.size) news).toArray)) : wpList P ops Q (o :: rest) a w := by
  subst hN
  refine wpList_plain hgd fun K hK => ?_
  have hrun := run_append_room (P := P) w t o.type e i ht hi g sLen sCap cur hg ad m c news hl hnews h1 hroom hfit
  rw [show cur.toList.take (sLen * i.size) ++ news ++ cur.toList.drop (sLen * i.size + news.length) = splice cur.toList (sLen * i.size) news by simp [splice]] at hrun
  unfold Oper.wp
  simp [execOp, ho, resolve, invoke, builtin, hs, hx, hrun, Result.andThen]
  exact hK _ _ h

/-- append(s[:i], make(.., k)...), where there is no room -/
theorem wpList_append_zeros {ops : Array Oper} {rest : List Oper} {o : Oper} {a : Act} {Q : Exit → Act → World → Prop} (hgd : o.guard = none) (s x : Operand) (t tn : TypeId)
    (ho : o.op = .call { callee := .builtin .append, args := #[s, x], argTypes := #[t, tn] }) (e : TypeId) (i : TypeInfo) (z : Value) (kq kn : IntKind) (ht : P.underlying t = some (.slice e)) (htn : P.underlying tn = some (.int kn)) (hi : P.info? e = some i) (hz : i.zero = some z)
    (ad : Addr) (sLen sCap : Nat) (hs : a.eval s = .slice (some ad) sLen sCap) (olds : List Value) (hlo : olds.length = sLen * i.size) (hold : ∀ j u, olds[j]? = some u → w.cell? (ad.add j) = some u)
    (k N : Nat) (kk : Int) (hx : a.eval x = .int kq kk) (hkk : kk = (k : Int)) (hN : sLen + k = N) (h0 : 0 < k) (hsz : 0 < i.size) (hg : sCap < N) (h63m : N ≤ maxLen) (h47 : N * i.bytes ≤ 140737488355328)
    (h : ∀ c cur, N ≤ c → c ≤ maxLen → cur.size = c * z.cells.size → cur.toList.take olds.length = olds → wpList P ops Q rest (a.put o.dst (.slice (some ⟨w.heap.size, 0, none⟩) N c)) (w.drew.alloc (.cells cur e))) (hzs : z.cells.size = i.size) : wpList P ops Q (o :: rest) a w := by
  subst hkk
  subst hN
  refine wpList_plain hgd fun K hK => ?_
  have hf := run_firstCells_some (P := P) w.drew i.size sLen ad sLen sCap olds hlo hold
  have hrun := Lib.run_append_grow_zeros (P := P) w t tn o.type e i z kq kn ht htn hi hz (some ad) sLen sCap olds hf k h0 hsz hg (by unfold maxLen at h63m; omega) (by
    have : k * i.bytes ≤ (sLen + k) * i.bytes := Nat.mul_le_mul_right _ (by omega)
    omega) (growslice_fits hg h47)
  unfold Oper.wp
  simp only [execOp, ho]
  simp [resolve, invoke, builtin, hs, hx, hrun, Result.andThen]
  exact hK _ _ (h _ _ (grownCap_ge w (sLen + k) sCap e) (grownCap_le_maxLen w (sLen + k) sCap e h63m) (by
    have := grownCap_ge w (sLen + k) sCap e
    simp only [Array.size_append, List.size_toArray, size_zeroCells, hlo, hzs]
    rw [← Nat.add_mul, ← Nat.add_mul]
    congr 1; omega) (by simp))
end

structure Key where
  a : Int
  b : Int
  c : Int
  deriving DecidableEq
abbrev K3 (a b c : Int) : Value := .agg #[.int .i64 a, .int .i64 b, .int .i64 c]
def kat (ks : List Key) (i : Nat) : Key := ks.getD i ⟨0, 0, 0⟩
def flat (ks : List Key) : List Value := ks.flatMap fun k => [.int .i64 k.a, .int .i64 k.b, .int .i64 k.c]
theorem flat_cons (k : Key) (ks : List Key) : flat (k :: ks) = .int .i64 k.a :: .int .i64 k.b :: .int .i64 k.c :: flat ks := by simp [flat]
theorem flat_append (xs ys : List Key) : flat (xs ++ ys) = flat xs ++ flat ys := by simp [flat]
theorem flat_length (ks : List Key) : (flat ks).length = ks.length * 3 := by
  induction ks with
  | nil => rfl
  | cons k ks ih => rw [flat_cons]; simp [ih]; omega
theorem flat_take (ks : List Key) (i : Nat) : flat (ks.take i) = (flat ks).take (i * 3) := by
  induction ks generalizing i with
  | nil => simp [flat]
  | cons k ks ih =>
    cases i with
    | zero => simp [flat]
    | succ i => rw [List.take_succ_cons, flat_cons, flat_cons, ih, show (i + 1) * 3 = i * 3 + 1 + 1 + 1 by omega]; simp
theorem flat_drop (ks : List Key) (i : Nat) : flat (ks.drop i) = (flat ks).drop (i * 3) := by
  induction ks generalizing i with
  | nil => simp [flat]
  | cons k ks ih =>
    cases i with
    | zero => simp
    | succ i => rw [List.drop_succ_cons, flat_cons, ih, show (i + 1) * 3 = i * 3 + 1 + 1 + 1 by omega]; simp
theorem flat_one (ks : List Key) : ∀ v ∈ flat ks, v.oneCell' = true := by
  intro v hv
  simp only [flat, List.mem_flatMap] at hv
  obtain ⟨k, _, hk⟩ := hv
  simp at hk
  rcases hk with rfl | rfl | rfl <;> rfl
theorem flat_at (ks : List Key) (i : Nat) (h : i < ks.length) : (flat ks)[i * 3]? = some (.int .i64 (kat ks i).a) ∧ (flat ks)[i * 3 + 1]? = some (.int .i64 (kat ks i).b) ∧ (flat ks)[i * 3 + 2]? = some (.int .i64 (kat ks i).c) := by
  induction ks generalizing i with
  | nil => simp at h
  | cons k ks ih =>
    cases i with
    | zero => rw [flat_cons]; simp [kat]
    | succ i =>
      have := ih i (by simpa using h)
      rw [flat_cons, show (i + 1) * 3 = i * 3 + 1 + 1 + 1 by omega]
      simpa [kat, Nat.add_assoc] using this

def KeysIn (w : World) (b : Nat) (ks : List Key) : Prop := ∀ i, i < ks.length → w.cell? ⟨b, i * 3, none⟩ = some (.int .i64 (kat ks i).a) ∧ w.cell? ⟨b, i * 3 + 1, none⟩ = some (.int .i64 (kat ks i).b) ∧ w.cell? ⟨b, i * 3 + 2, none⟩ = some (.int .i64 (kat ks i).c)
theorem keysIn_of_cells {w : World} {b : Nat} {ks : List Key} (h : ∀ j, j < ks.length * 3 → w.cell? ⟨b, j, none⟩ = (flat ks)[j]?) : KeysIn w b ks := fun i hi => by
  obtain ⟨h0, h1, h2⟩ := flat_at ks i hi
  exact ⟨(h _ (by omega)).trans h0, (h _ (by omega)).trans h1, (h _ (by omega)).trans h2⟩

def key3 (k : Key) : Array Value := #[.int .i64 k.a, .int .i64 k.b, .int .i64 k.c]
theorem key3_one (k : Key) : ∀ u ∈ (key3 k).toList, u.oneCell' = true := by
  intro u hu
  simp [key3] at hu
  rcases hu with rfl | rfl | rfl <;> rfl
theorem key3_flat (k : Key) (ks : List Key) : flat (k :: ks) = (key3 k).toList ++ flat ks := by rw [flat_cons]; simp [key3]
theorem key3_length (k : Key) : (key3 k).toList.length = 3 := rfl

theorem take_app {α : Type} (A B : List α) (n : Nat) (h : A.length = n) : (A ++ B).take n = A := by subst h; simp

theorem ins_cells (L : List Value) (ks : List Key) (k : Key) (pos : Nat) (hpos : pos ≤ ks.length) (_hL : (ks.length + 1) * 3 ≤ L.length) (ht : L.take (pos * 3) = flat (ks.take pos)) :
    (splice (splice L (pos * 3) (key3 k).toList) (pos * 3 + 3) (flat (ks.drop pos))).take ((ks.length + 1) * 3) = flat (ks.take pos ++ k :: ks.drop pos) := by
  have hA : (flat (ks.take pos)).length = pos * 3 := by rw [flat_length, List.length_take]; omega
  have hF : (flat (ks.drop pos)).length = (ks.length - pos) * 3 := by rw [flat_length, List.length_drop]
  have e1 : (splice L (pos * 3) (key3 k).toList).take (pos * 3 + 3) = flat (ks.take pos) ++ (key3 k).toList := by
    unfold splice
    rw [ht, ← List.append_assoc]
    exact take_app _ _ _ (by rw [List.length_append, hA, key3_length])
  rw [show splice (splice L (pos * 3) (key3 k).toList) (pos * 3 + 3) (flat (ks.drop pos)) = (splice L (pos * 3) (key3 k).toList).take (pos * 3 + 3) ++ (flat (ks.drop pos) ++ (splice L (pos * 3) (key3 k).toList).drop (pos * 3 + 3 + (flat (ks.drop pos)).length)) from rfl, e1, ← List.append_assoc]
  rw [take_app _ _ _ (by rw [List.length_append, List.length_append, hA, hF, key3_length]; omega), flat_append, key3_flat, List.append_assoc]

theorem ins_cells' (L : List Value) (ks : List Key) (k : Key) (pos : Nat) (hpos : pos ≤ ks.length) (hL : (ks.length + 1) * 3 ≤ L.length) (ht : L.take (pos * 3) = flat (ks.take pos)) :
    (splice (splice L (pos * 3 + 3) (flat (ks.drop pos))) (pos * 3) (key3 k).toList).take ((ks.length + 1) * 3) = flat (ks.take pos ++ k :: ks.drop pos) := by
  have hA : (flat (ks.take pos)).length = pos * 3 := by rw [flat_length, List.length_take]; omega
  have hF : (flat (ks.drop pos)).length = (ks.length - pos) * 3 := by rw [flat_length, List.length_drop]
  have hT : (L.take (pos * 3 + 3)).length = pos * 3 + 3 := by rw [List.length_take]; omega
  have e1 : (splice L (pos * 3 + 3) (flat (ks.drop pos))).take (pos * 3) = flat (ks.take pos) := by
    unfold splice
    rw [List.take_append_of_le_length (by omega), List.take_take, Nat.min_eq_left (by omega), ht]
  have e2 : (splice L (pos * 3 + 3) (flat (ks.drop pos))).drop (pos * 3 + 3) = flat (ks.drop pos) ++ L.drop (pos * 3 + 3 + (flat (ks.drop pos)).length) := by
    unfold splice
    rw [List.drop_append_of_le_length (by omega), List.drop_eq_nil_of_le (by omega), List.nil_append]
  rw [show splice (splice L (pos * 3 + 3) (flat (ks.drop pos))) (pos * 3) (key3 k).toList = (splice L (pos * 3 + 3) (flat (ks.drop pos))).take (pos * 3) ++ ((key3 k).toList ++ (splice L (pos * 3 + 3) (flat (ks.drop pos))).drop (pos * 3 + (key3 k).toList.length)) from rfl, e1, key3_length, e2]
  rw [← List.append_assoc, ← List.append_assoc]
  rw [take_app _ _ _ (by rw [List.length_append, List.length_append, hA, hF, key3_length]; omega), flat_append, key3_flat, List.append_assoc]

def rowOf (w : World) (v : Value) (ks : List Key) : Prop := w.ownsRow 0 25 3 v ks.length (flat ks)
def insAt (ks : List Key) (pos : Nat) (k : Key) : List Key := ks.take pos ++ k :: ks.drop pos
theorem insAt_length {ks : List Key} {pos : Nat} {k : Key} (h : pos ≤ ks.length) : (insAt ks pos k).length = ks.length + 1 := by
  simp [insAt]; omega
theorem insAt_end (ks : List Key) (k : Key) : insAt ks ks.length k = ks ++ [k] := by simp [insAt]
theorem row_mk {w : World} {g n cap : Nat} {cur : Array Value} {ks : List Key} (hg : w.heap[g]? = some (.cells cur 25 (0, 0))) (hn : n = ks.length) (h1 : n ≤ cap) (h2 : cap ≤ maxLen) (h3 : cur.size = cap * 3) (h4 : cur.toList.take (ks.length * 3) = flat ks) :
    rowOf w (.slice (some ⟨g, 0, none⟩) n cap) ks := by
  subst hn
  exact ⟨flat_length ks, .inr ⟨g, cap, cur, rfl, Nat.zero_le _, hg, h1, h2, h3, h4⟩⟩
theorem row_cases {w : World} {v : Value} {ks : List Key} (h : rowOf w v ks) : (v = .slice none 0 0 ∧ ks = []) ∨ ∃ g cap cur, v = .slice (some ⟨g, 0, none⟩) ks.length cap ∧ w.heap[g]? = some (.cells cur 25 (0, 0)) ∧ ks.length ≤ cap ∧ cap ≤ maxLen ∧ cur.size = cap * 3 ∧ cur.toList.take (ks.length * 3) = flat ks := by
  rcases h.2 with ⟨h1, h2⟩ | ⟨g, cap, cur, h1, _, h2, h3, h4, h5, h6⟩
  · exact .inl ⟨h1, List.eq_nil_of_length_eq_zero h2⟩
  · exact .inr ⟨g, cap, cur, h1, h2, h3, h4, h5, h6⟩
theorem row_keysIn {w : World} {g n cap : Nat} {ks : List Key} (h : rowOf w (.slice (some ⟨g, 0, none⟩) n cap) ks) : KeysIn w g ks := by
  rcases row_cases h with ⟨h1, _⟩ | ⟨g', cap', cur, h1, hg, _, _, _, h6⟩
  · cases h1
  · simp only [Value.slice.injEq, Option.some.injEq, Addr.mk.injEq, and_true] at h1
    obtain ⟨rfl, -, -⟩ := h1
    refine keysIn_of_cells fun j hj => ?_
    rw [block_cell hg, ← h6, List.getElem?_take, if_pos hj]
    simp
theorem row_block {w : World} {g n cap : Nat} {ks : List Key} (h : rowOf w (.slice (some ⟨g, 0, none⟩) n cap) ks) : g < w.heap.size := (World.ownsRow.lt h g rfl).2

def delAt (ks : List Key) (pos : Nat) : List Key := ks.take pos ++ ks.drop (pos + 1)
theorem delAt_length {ks : List Key} {pos : Nat} (h : pos < ks.length) : (delAt ks pos).length = ks.length - 1 := by simp [delAt]; omega
theorem del_cells (L Z : List Value) (ks : List Key) (pos q : Nat) (hpos : pos < ks.length) (hq : ks.length = q + 1) (_hL : ks.length * 3 ≤ L.length) (ht : L.take (pos * 3) = flat (ks.take pos)) :
    (splice (splice L (pos * 3) (flat (ks.drop (pos + 1)))) (q * 3) Z).take (q * 3) = flat (delAt ks pos) := by
  have hA : (flat (ks.take pos)).length = pos * 3 := by rw [flat_length, List.length_take]; omega
  have hF : (flat (ks.drop (pos + 1))).length = (q - pos) * 3 := by rw [flat_length, List.length_drop]; omega
  have e1 : (splice L (pos * 3) (flat (ks.drop (pos + 1)))).take (q * 3) = flat (ks.take pos) ++ flat (ks.drop (pos + 1)) := by
    unfold splice
    rw [ht, ← List.append_assoc]
    exact take_app _ _ _ (by rw [List.length_append, hA, hF]; omega)
  rw [show splice (splice L (pos * 3) (flat (ks.drop (pos + 1)))) (q * 3) Z = (splice L (pos * 3) (flat (ks.drop (pos + 1)))).take (q * 3) ++ (Z ++ (splice L (pos * 3) (flat (ks.drop (pos + 1)))).drop (q * 3 + Z.length)) from rfl, e1]
  rw [take_app _ _ _ (by rw [List.length_append, hA, hF]; omega), ← flat_append]
  rfl

/-- for stopping the walk ahead of an operation -/
theorem halt_here {p : Prop} (h : Hid p) : p := h
theorem go_on {p : Prop} (h : p) : Hid p := h
end Go.Proofs.YtfaegjlolhpofaaDoor
