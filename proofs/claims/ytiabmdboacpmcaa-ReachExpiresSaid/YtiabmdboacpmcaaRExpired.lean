/- ReachExpires: behind a horizon just those pairs are left that last up to it, of nodes that have an edge still. No condition. -/
import Derived.Test.YtiabmdboacpmcaaX29
import Derived.Test.YtiabmdboacpmcaaX30
import Derived.Shelf.Abstract
import Derived.Test.YtiabmdboacpmcaaX32
import Derived.Test.YtiabmdboacpmcaaX34
/- An edge taken away: what is left of a forest. -/
namespace Go.Proofs.Ytiabmdboacpmcaa
open Go Go.RowKit Go.Sort Go.WideMaps Go.Maps
set_option maxHeartbeats 1000000

def delG (E : Gr3) (k : Key) : Gr3 := fun k' => if k' = k then none else E k'
theorem delG_same (E : Gr3) (k : Key) : delG E k k = none := if_pos rfl
theorem delG_other {E : Gr3} {k k' : Key} (h : k' ≠ k) : delG E k k' = E k' := if_neg h
theorem delG_some {E : Gr3} {k k' : Key} {u : Int} : delG E k k' = some u ↔ k' ≠ k ∧ E k' = some u := by
  unfold delG
  split
  · rename_i h; simp [h]
  · rename_i h; simp [h]
theorem node_delG {E : Gr3} {k : Key} {n : Int} (h : isNode (delG E k) n) : isNode E n := by
  obtain ⟨k', u, h1, h2⟩ := h
  exact ⟨k', u, (delG_some.1 h1).2, h2⟩
/-- while the ends of an edge are gone through -/
structure DelF (E : Gr3) (k : Key) (es : List Int) (S : Int → Option Nat) (sub : Int → Key → Option Bool) : Prop where
  nodes : ∀ n, (S n).isSome = true ↔ isNode E n ∧ (n ∈ es → isNode (delG E k) n)
  sub : ∀ n k', (S n).isSome = true → sub n k' = if k' = k ∧ n ∈ es then none else subF E n k'
def subDel (sub : Int → Key → Option Bool) (n : Int) (k : Key) : Int → Key → Option Bool := fun x k' => if x = n then (if k' = k then none else sub n k') else sub x k'
def sDel (S : Int → Option Nat) (n : Int) : Int → Option Nat := fun x => if x = n then none else S x
theorem del_start {E : Gr3} {k : Key} {S : Int → Option Nat} (h : ∀ n, (S n).isSome = true ↔ isNode E n) : DelF E k [] S (subF E) :=
  ⟨fun n => by rw [h]; simp, fun n k' _ => by simp⟩
/-- a node's edges, but for the one -/
theorem del_sub {E : Gr3} {k : Key} {es : List Int} {S : Int → Option Nat} {sub : Int → Key → Option Bool} (h : DelF E k es S sub) {n : Int} (hn : (S n).isSome = true) (x : Key) : subDel sub n k n x = subF (delG E k) n x := by
  unfold subDel
  rw [if_pos rfl]
  by_cases e : x = k
  · rw [if_pos e]
    subst e
    unfold subF
    rw [delG_same]
    simp
  · rw [if_neg e, h.sub n x hn, if_neg (fun c => e c.1)]
    unfold subF
    rw [delG_other e]
/-- no edges: no node -/
theorem del_none {E : Gr3} {k : Key} {n : Int} (h : ∀ x, subF (delG E k) n x = none) : ¬ isNode (delG E k) n := fun hn => by
  obtain ⟨k', u, h1, h2⟩ := hn
  have := h k'
  unfold subF at this
  rw [if_pos ⟨by rw [h1]; rfl, h2⟩] at this
  cases this
theorem del_some {E : Gr3} {k : Key} {n : Int} {x : Key} (h : (subF (delG E k) n x).isSome = true) : isNode (delG E k) n := by
  unfold subF at h
  split at h
  · rename_i h1
    obtain ⟨u, hu⟩ := Option.isSome_iff_exists.1 h1.1
    exact ⟨x, u, hu, h1.2⟩
  · cases h
/-- the node stays -/
theorem del_stay {E : Gr3} {k : Key} {es : List Int} {S : Int → Option Nat} {sub : Int → Key → Option Bool} (h : DelF E k es S sub) {n : Int} (hn : isNode (delG E k) n) : DelF E k (es ++ [n]) S (subDel sub n k) := by
  refine ⟨fun x => ?_, fun x k' hx => ?_⟩
  · rw [h.nodes]
    constructor
    · rintro ⟨h1, h2⟩
      refine ⟨h1, fun hm => ?_⟩
      rcases List.mem_append.1 hm with h3 | h3
      · exact h2 h3
      · rw [List.mem_singleton.1 h3]; exact hn
    · rintro ⟨h1, h2⟩
      exact ⟨h1, fun hm => h2 (List.mem_append_left _ hm)⟩
  · unfold subDel
    by_cases e : x = n
    · subst e
      rw [if_pos rfl]
      by_cases ek : k' = k
      · rw [if_pos ek, if_pos ⟨ek, by simp⟩]
      · rw [if_neg ek, if_neg (fun c => ek c.1), h.sub x k' hx, if_neg (fun c => ek c.1)]
    · rw [if_neg e, h.sub x k' hx]
      simp [e]
/-- the node goes -/
theorem del_go {E : Gr3} {k : Key} {es : List Int} {S : Int → Option Nat} {sub : Int → Key → Option Bool} (h : DelF E k es S sub) {n : Int} (hn : ¬ isNode (delG E k) n) : DelF E k (es ++ [n]) (sDel S n) (subDel sub n k) := by
  refine ⟨fun x => ?_, fun x k' hx => ?_⟩
  · unfold sDel
    by_cases e : x = n
    · subst e
      rw [if_pos rfl]
      constructor
      · intro hc; cases hc
      · rintro ⟨_, h2⟩
        exact absurd (h2 (by simp)) hn
    · rw [if_neg e, h.nodes]
      simp [e]
  · unfold sDel at hx
    unfold subDel
    by_cases e : x = n
    · rw [if_pos e] at hx; cases hx
    · rw [if_neg e] at hx ⊢
      rw [h.sub x k' hx]
      simp [e]
theorem del_final {E : Gr3} {k : Key} {S : Int → Option Nat} {sub : Int → Key → Option Bool} (h : DelF E k [k.a, k.c] S sub) :
    (∀ n, (S n).isSome = true ↔ isNode (delG E k) n) ∧ ∀ n k', (S n).isSome = true → sub n k' = subF (delG E k) n k' := by
  refine ⟨fun n => ?_, fun n k' hn => ?_⟩
  · rw [h.nodes]
    constructor
    · rintro ⟨h1, h2⟩
      by_cases hm : n ∈ [k.a, k.c]
      · exact h2 hm
      · obtain ⟨k', u, h3, h4⟩ := h1
        have hne : k' ≠ k := fun e => by
          rw [e] at h4
          exact hm (by rcases h4 with h4 | h4 <;> rw [← h4] <;> simp)
        exact ⟨k', u, delG_some.2 ⟨hne, h3⟩, h4⟩
    · intro h1
      exact ⟨node_delG h1, fun _ => h1⟩
  · rw [h.sub n k' hn]
    by_cases e : k' = k
    · subst e
      have h0 : subF (delG E k') n k' = none := by
        unfold subF
        rw [delG_same]
        simp
      rw [h0]
      by_cases hm : n ∈ [k'.a, k'.c]
      · rw [if_pos ⟨rfl, hm⟩]
      · rw [if_neg (fun c => hm c.2)]
        unfold subF
        rw [if_neg]
        rintro ⟨_, h2⟩
        exact hm (by rcases h2 with h4 | h4 <;> rw [← h4] <;> simp)
    · rw [if_neg (fun c => e c.1)]
      unfold subF
      rw [delG_other e]
theorem mid_subDel {w0 w w' : World} {L : Loc} {room h : Int} {E : Gr3} {S : Int → Option Nat} {sub : Int → Key → Option Bool} {F : Nat → Prop} {n : Int} {sb : Nat} {k : Key} (H : MidH w0 L room h E S sub F w) (hn : S n = some sb) (hU : Upd (fun b => b = sb) w w') (hM : ∃ N, MapS sb N (fun z => if z = k then none else sub n z) w') : MidH w0 L room h E S (subDel sub n k) F w' ∧ (∀ N f, MapP L.bb N f w → MapP L.bb N f w') := by
  obtain ⟨N, h1⟩ := H.edges
  obtain ⟨M, h2⟩ := H.out
  obtain ⟨NN, hNN⟩ := H.sub n sb hn
  obtain ⟨c1, c2, c3⟩ := H.sne n sb hn
  have hpf : L.pf ≠ sb := mapG_off hNN H.blk
  refine ⟨⟨(hU.block _ (block_lt H.blk) hpf).trans H.blk, ⟨N, mapG_upd h1 hU (fun e => c1 e.symm)⟩, ⟨M, mapG_upd h2 hU (fun e => c2 e.symm)⟩, fun x c hx => ?_, H.ne, H.sne, H.sinj, H.low, ?_, H.own⟩, fun N f hP => mapG_upd hP hU (fun e => c3 e.symm)⟩
  · by_cases e : x = n
    · subst e
      rw [hn] at hx
      cases hx
      obtain ⟨N', h5⟩ := hM
      exact ⟨N', mapG_congr h5 (fun z => by simp [subDel]) rfl⟩
    · obtain ⟨N', h5⟩ := H.sub x c hx
      refine ⟨N', mapG_congr (mapG_upd h5 hU (fun e' => e (H.sinj x n sb (by rw [hx]; exact congrArg some e') hn))) (fun z => by simp [subDel, e]) rfl⟩
  · exact ext_of_upd (upd_trans (upd_of_ext H.ext) hU (fun i hi e => by have e' : i = sb := e; have := H.low.2.2.2.2 n sb hn; omega))
theorem mid_outDel {w0 w w' : World} {L : Loc} {room h : Int} {E : Gr3} {S : Int → Option Nat} {sub : Int → Key → Option Bool} {F : Nat → Prop} {n : Int} (H : MidH w0 L room h E S sub F w) (hU : Upd (fun b => b = L.bo) w w') (hM : ∃ N, MapO L.bo N (fun z => if z = n then none else (S z).map some) w') : MidH w0 L room h E (sDel S n) sub F w' ∧ (∀ N f, MapP L.bb N f w → MapP L.bb N f w') := by
  obtain ⟨N, h1⟩ := H.edges
  obtain ⟨M, h2⟩ := H.out
  have hpf : L.pf ≠ L.bo := mapG_off h2 H.blk
  have hs : ∀ x c, sDel S n x = some c → S x = some c := fun x c hx => by
    unfold sDel at hx
    split at hx
    · cases hx
    · exact hx
  refine ⟨⟨(hU.block _ (block_lt H.blk) hpf).trans H.blk, ⟨N, mapG_upd h1 hU H.ne.1⟩, ?_, fun x c hx => ?_, H.ne, fun x c hx => H.sne x c (hs x c hx), fun x x' c hx hx' => H.sinj x x' c (hs x c hx) (hs x' c hx'), ⟨H.low.1, H.low.2.1, H.low.2.2.1, H.low.2.2.2.1, fun x c hx => H.low.2.2.2.2 x c (hs x c hx)⟩, ?_, ⟨H.own.1, H.own.2.1, H.own.2.2.1, H.own.2.2.2.1, fun x c hx => H.own.2.2.2.2 x c (hs x c hx)⟩⟩, fun N f hP => mapG_upd hP hU (fun e => H.ne.2.2 e.symm)⟩
  · obtain ⟨N', h5⟩ := hM
    exact ⟨N', mapG_congr h5 (fun z => by unfold sDel; split <;> rfl) rfl⟩
  · obtain ⟨N', h5⟩ := H.sub x c (hs x c hx)
    exact ⟨N', mapG_upd h5 hU (H.sne x c (hs x c hx)).2.1⟩
  · exact ext_of_upd (upd_trans (upd_of_ext H.ext) hU (fun i hi e => by have e' : i = L.bo := e; have := H.low.2.2.1; omega))
/-- a map is without keys just if it has none -/
theorem mapG_zero {P : Program} {k e : TypeId} {α β : Type} [DecidableEq α] {K : KT P k α} {E : ET P e β} {b N : Nat} {f : α → Option β} {w : World} (h : MapG K E b N f w) : N = 0 ↔ ∀ x, f x = none := by
  obtain ⟨L, h1, h2, h3⟩ := mapG_keys h
  constructor
  · intro e x
    rw [e] at h3
    have hL := List.eq_nil_of_length_eq_zero h3
    cases hx : f x with
    | none => rfl
    | some c =>
      have := (h2 x).2 (by rw [hx]; rfl)
      rw [hL] at this
      cases this
  · intro hx
    rw [← h3]
    cases L with
    | nil => rfl
    | cons x L =>
      have := (h2 x).1 (List.mem_cons_self ..)
      rw [hx] at this
      cases this
end Go.Proofs.Ytiabmdboacpmcaa
/- drop: walked. -/
namespace Go.Proofs.Ytiabmdboacpmcaa
open Go Go.RowKit Go.Sort Go.WideMaps Go.Maps
set_option maxHeartbeats 4000000

def DropTo (w0 : World) (L : Loc) (room h : Int) (E : Gr3) (F : Nat → Prop) (f : Bst) (k : Key) (w : World) (e : Ending) (w' : World) : Prop :=
  e = .returned (.tuple #[]) ∧ ∃ S', MidH w0 L room h (delG E k) S' (subF (delG E k)) F w' ∧ Best L f w' ∧ (∀ n, (S' n).isSome = true ↔ isNode (delG E k) n) ∧ Upd F w w'
theorem wpList_drop_N {P : Program} {k e : TypeId} {α β : Type} (K : KT P k α) (E : ET P e β) (w : World) {ops : Array Oper} {rest : List Oper} {o : Oper} {a : Act} {Q : Exit → Act → World → Prop} (hg : o.guard = none) (m x : Operand) (t : TypeId) (hop : o.op = Op.call { callee := Callee.builtin Builtin.delete, args := #[m, x], argTypes := #[t, k] }) (ht : P.underlying t = some (.map k e)) (hm : a.eval m = .map none)
    (y : α) (hx : a.eval x = K.val y) (hy : K.ok y) (hK : wpList P ops Q rest (a.put o.dst (.tuple #[])) w) : wpList P ops Q (o :: rest) a w := by
  refine wpList_plain hg fun K' hK' => ?_
  unfold Oper.wp
  simp [execOp, hop, resolve, invoke, builtin, hm, hx, Maps.drop_nil K.law ht (K.key y hy) o.type, Result.andThen]
  exact hK' _ _ hK
set_option maxRecDepth 100000 in
theorem drop_any (w0 : World) (L : Loc) (room h : Int) (E : Gr3) (S : Int → Option Nat) (F : Nat → Prop) (f : Bst) (k : Key) (w : World)
    (H : MidH w0 L room h E S (subF E) F w) (hB : Best L f w) (hN : ∀ n, (S n).isSome = true ↔ isNode E n) (hk : ok3 k) :
    Calls Try.prog 76 #[ptr L.pf, k3 k] w (DropTo w0 L room h E F f k w) := by
  obtain ⟨W, hW⟩ : ∃ W, W = w.alloc (.cells #[.int .i64 k.a, .int .i64 k.b, .int .i64 k.c] 85) := ⟨_, rfl⟩
  have hE0 : Ext w W := by rw [hW]; exact ext_alloc (ext_refl _) _
  obtain ⟨bk, hbk⟩ : ∃ b, b = w.heap.size := ⟨_, rfl⟩
  have hK : W.heap[bk]? = some (.cells #[.int .i64 k.a, .int .i64 k.b, .int .i64 k.c] 85 (0, 0)) := by rw [hW, hbk]; exact heap_alloc_new _ _
  obtain ⟨F1, hF1⟩ : ∃ F1 : Nat → Prop, F1 = fun b => F b ∧ b < w.heap.size := ⟨_, rfl⟩
  have hbw : L.bb < w.heap.size := by obtain ⟨NB, hNB⟩ := hB; exact mapG_lt hNB
  have hM1 : MidH w0 L room h E S (subF E) F1 w := mid_own H hbw (fun b hb hF => by rw [hF1]; exact ⟨hF, hb⟩)
  have HM0 := Lib.hid (midH_ext hM1 hE0)
  have HB0 := Lib.hid (best_ext hB hE0)
  have HE0 := Lib.hid hE0
  have HK := Lib.hid hK
  have HF1 := Lib.hid hF1
  have HBK := Lib.hid hbk
  have HNB := Lib.hid (show ¬ F1 bk from by rw [hF1, hbk]; rintro ⟨_, h5⟩; omega)
  have HKO := Lib.hid hk
  have HND := Lib.hid hN
  obtain ⟨NE, hNE⟩ := (midH_ext hM1 hE0).edges
  have HNE := Lib.hid hNE
  have hpf := (midH_ext hM1 hE0).blk
  have q3 : (w.alloc (.cells #[.int .i64 k.a, .int .i64 k.b, .int .i64 k.c] 85)).cell? ⟨L.pf, 3, none⟩ = some (.map (some L.be)) := by rw [← hW]; exact block_cell hpf 3
  have l0 : L.pf < (w.alloc (.cells #[.int .i64 k.a, .int .i64 k.b, .int .i64 k.c] 85)).heap.size := by rw [← hW]; exact block_lt hpf
  have HW := Lib.hid hW
  clear H hB hN hk hW hE0 hK hbk hF1 hM1 hbw hNE hpf q3 l0
  simp only [k3]
  go_enter Try.func76, Try.ntmps76
  have hgc := cell_grown
  go_wp2
  rw [← HW.out, ← HBK.out]
  have hblk := HM0.out.blk
  have q3 := block_cell hblk 3
  have l0 := block_lt hblk
  have k0 := block_cell HK.out 0
  have k1 := block_cell HK.out 1
  have k2 := block_cell HK.out 2
  have lk := block_lt HK.out
  clear hblk
  refine wp_region_mix [] [0, 1, 2, 3, 4] [] [5] (by kernel_rfl) (by kernel_rfl) (fun _ _ d _ _ h => by cases d <;> exact h) ?_
  refine wpPre_nil ?_
  repeat (refine wpLoose_step rfl (fun K hK => ?_); (try simp only [Oper.quietAt, Oper.quietUpon]); go_simp; (refine hK _ ?_; clear hK K))
  refine wpLoose_nil (wpFresh_nil (fun w5 hE5 _ => ?_))
  try simp only [List.drop_succ_cons, List.drop_zero]
  have HE5 := Lib.hid hE5
  clear q3 l0 k0 k1 k2 lk hE5 hgc
  refine wpSeq_of_list [5] [_] _ _ rfl ?_
  refine wpList_drop_G (K := kK) (E := eI) _ rfl (.tmp 9) (.tmp 10) 95 rfl Try.underlying95 rfl (mapG_ext HNE.out HE5.out) k rfl HKO.out (fun w6 hP6 hg6 => ?_)
  have hU6 := upd_mono (upd_grown hg6) (fp' := fun b => b = L.be) (fun i _ e => (Option.some.inj e).symm)
  have hmid6 := mid_edges (E' := delG E k) (midH_ext HM0.out HE5.out) hU6 ⟨_, mapG_congr hP6 (fun z => rfl) rfl⟩
  have hbest6 : Best L f w6 := by
    obtain ⟨NB, hNB⟩ := HB0.out
    exact ⟨NB, hmid6.2 NB f (mapG_ext hNB HE5.out)⟩
  have hkbe : bk ≠ L.be := mapG_off (mapG_ext HNE.out HE5.out) ((ext_block HE5.out (block_lt HK.out)).trans HK.out)
  have hk6 := (hU6.block bk (ext_lt HE5.out (block_lt HK.out)) hkbe).trans ((ext_block HE5.out (block_lt HK.out)).trans HK.out)
  have hUw6 : Upd F1 w w6 := upd_trans (upd_of_ext (ext_trans HE0.out HE5.out)) hU6 (fun i hi e => by have e' : i = L.be := e; rw [e']; exact HM0.out.own.2.1)
  have HMID6 := Lib.hid hmid6.1
  have HBEST6 := Lib.hid hbest6
  have HK6 := Lib.hid hk6
  have HUW6 := Lib.hid hUw6
  clear hU6 hmid6 hbest6 hkbe hk6 hUw6 hP6 hg6
  have k0 := block_cell HK6.out 0
  have k1 := block_cell HK6.out 1
  have k2 := block_cell HK6.out 2
  have lk := block_lt HK6.out
  go_simp
  go_wp2_with fail
  refine (ends_any k w6).mono ?_
  rintro e w7 ⟨rfl, hE7⟩
  have HMID7 := Lib.hid (midH_ext HMID6.out hE7)
  have HBEST7 := Lib.hid (best_ext HBEST6.out hE7)
  have HK7 := Lib.hid ((ext_block hE7 (block_lt HK6.out)).trans HK6.out)
  have HUW7 := Lib.hid (upd_trans HUW6.out (upd_of_ext (fp := fun _ => False) hE7) (fun _ _ h => h.elim))
  clear hE7 k0 k1 k2 lk
  go_wp2
  go_loopw [13] (fun y wr => ∃ j : Nat, j ≤ 2 ∧ y = .int .i64 (j : Int) ∧ (∃ S1 sub1, MidH w0 L room h (delG E k) S1 sub1 F1 wr ∧ Best L f wr ∧ DelF E k ([k.a, k.c].take j) S1 sub1) ∧ wr.heap[bk]? = some (.cells #[.int .i64 k.a, .int .i64 k.b, .int .i64 k.c] 85 (0, 0)) ∧ Upd F1 w wr) (fun y _ => 2 - (intOf y).toNat)
  case atStart => exact ⟨0, by omega, rfl, ⟨S, subF E, HMID7.out, HBEST7.out, del_start HND.out⟩, HK7.out, HUW7.out⟩
  case round =>
    rename World => wi
    obtain ⟨j, hj, rfl, ⟨S1, sub1, hm1, hb1, he1⟩, hki, hui⟩ := hrel
    have HM1 := Lib.hid hm1
    have HB1 := Lib.hid hb1
    have HDL := Lib.hid he1
    have HKI := Lib.hid hki
    have HUI := Lib.hid hui
    clear hm1 hb1 he1 hki hui
    by_cases hlt : j < 2
    · have hji : (j : Int) < 2 := by omega
      obtain ⟨n, hnok, hix, htk⟩ : ∃ n : Int, okI n ∧ (∀ w, (Instr.index 78 (.agg #[.int .i64 k.a, .int .i64 k.c]) (.int .i64 (j : Int))).run Try.prog w = .ok (.int .i64 n) w) ∧ [k.a, k.c].take (j + 1) = [k.a, k.c].take j ++ [n] := by
        rcases (by omega : j = 0 ∨ j = 1) with rfl | rfl
        · exact ⟨k.a, HKO.out.1, fun w => index2 0 _ _ _ w (.inl ⟨rfl, rfl⟩), rfl⟩
        · exact ⟨k.c, HKO.out.2.2, fun w => index2 1 _ _ _ w (.inr ⟨rfl, rfl⟩), rfl⟩
      have HTK := Lib.hid htk
      have HNOK := Lib.hid hnok
      have hwj : IntKind.i64.wrap ((j : Int) + 1) = (j : Int) + 1 := IntWalk.i64_in _ (by omega)
      obtain ⟨NO, hNO⟩ := HM1.out.out
      have HNO := Lib.hid hNO
      obtain ⟨sv, hsv⟩ : ∃ sv, sv = S1 n := ⟨_, rfl⟩
      have hlk : ∀ (d : Nat) (os : Array Obj), (Instr.lookup 119 (.map (some L.bo)) (.int .i64 n) false).run Try.prog (grow (redrawn wi d) os) = .ok (.map sv) (grow (redrawn wi d) os) := fun d os => by
        have h3 := look_G Try.underlying119 (mapG_ext hNO (ext_grow (ext_refl _) d os)) (x := n) hnok
        rw [← hsv] at h3
        cases sv <;> exact h3
      have HSV := Lib.hid hsv
      have hblk := HM1.out.blk
      have q4 := block_cell hblk 4
      have l0 := block_lt hblk
      have k0 := block_cell HKI.out 0
      have k1 := block_cell HKI.out 1
      have k2 := block_cell HKI.out 2
      have lk := block_lt HKI.out
      have hgc := cell_grown
      clear hblk htk hnok hNO hsv
      go_wp2
      refine wp_region_mix [] [0, 1, 2, 3, 4, 5, 6] [] [7] (by kernel_rfl) (by kernel_rfl) (fun _ _ d _ _ h => by cases d <;> exact h) ?_
      refine wpPre_nil ?_
      repeat (refine wpLoose_step rfl (fun K hK => ?_); (try simp only [Oper.quietAt, Oper.quietUpon]); go_simp; (refine hK _ ?_; clear hK K))
      refine wpLoose_nil (wpFresh_nil (fun w8 hE8 _ => ?_))
      try simp only [List.drop_succ_cons, List.drop_zero]
      have HM8 := Lib.hid (midH_ext HM1.out hE8)
      have HB8 := Lib.hid (best_ext HB1.out hE8)
      have HK8 := Lib.hid ((ext_block hE8 (block_lt HKI.out)).trans HKI.out)
      have HU8 := Lib.hid (upd_trans HUI.out (upd_of_ext (fp := fun _ => False) hE8) (fun _ _ h => h.elim))
      have HNO8 := Lib.hid (mapG_ext HNO.out hE8)
      clear q4 l0 k0 k1 k2 lk hlk hgc hE8
      refine wpSeq_of_list [7] [_] _ _ rfl ?_
      -- what is done behind the delete
      cases sv with
      | none =>
        refine wpList_drop_N kK eB _ rfl (.tmp 21) (.tmp 22) 128 rfl Try.underlying128 rfl k rfl HKO.out ?_
        go_simp
        have hlk : (Instr.lookup 119 (.map (some L.bo)) (.int .i64 n) false).run Try.prog w8 = .ok (.map none) w8 := by
          have h3 := look_G Try.underlying119 HNO8.out (x := n) HNOK.out
          rw [← HSV.out] at h3
          exact h3
        have q4 := block_cell HM8.out.blk 4
        have l0 := block_lt HM8.out.blk
        go_wp2_with (first
          | (at_delete; refine wpList_drop_G (K := kI) (E := eM) _ rfl (.tmp 34) (.tmp 35) 119 rfl Try.underlying119 rfl HNO8.out n rfl HNOK.out (fun w9 hP9 hg9 => ?_))
          | go_in)
        have hU9 := upd_mono (upd_grown hg9) (fp' := fun b => b = L.bo) (fun i _ e => (Option.some.inj e).symm)
        have hm9 := mid_outDel HM8.out hU9 ⟨_, mapG_congr hP9 (fun z => rfl) rfl⟩
        have hS9 : sDel S1 n = S1 := by
          funext x
          unfold sDel
          by_cases e : x = n
          · rw [if_pos e, e, ← HSV.out]
          · rw [if_neg e]
        have hno : ¬ isNode (delG E k) n := fun hc => by
          have := (HDL.out.nodes n).2 ⟨node_delG hc, fun _ => hc⟩
          rw [← HSV.out] at this
          cases this
        have hd9 := del_go HDL.out hno
        have hm9' : MidH w0 L room h (delG E k) (sDel S1 n) (subDel sub1 n k) F1 w9 := mid_congr hm9.1 (fun x k' hx => by
          unfold subDel
          by_cases e : x = n
          · rw [e] at hx
            unfold sDel at hx
            rw [if_pos rfl] at hx
            cases hx
          · rw [if_neg e])
        have hb9 : Best L f w9 := by
          obtain ⟨NB, hNB⟩ := HB8.out
          exact ⟨NB, hm9.2 NB f hNB⟩
        have hk9 := (hU9.block bk (block_lt HK8.out) (mapG_off HNO8.out HK8.out)).trans HK8.out
        have hu9 : Upd F1 w w9 := upd_trans HU8.out hU9 (fun i _ e => by have e' : i = L.bo := e; rw [e']; exact HM8.out.own.2.2.1)
        have HREL := Lib.hid (And.intro hm9' (And.intro hb9 (And.intro hd9 (And.intro hk9 hu9))))
        clear hU9 hm9 hS9 hno hd9 hm9' hb9 hk9 hu9 hP9 hg9 q4 l0 hlk hix
        go_wp2
        go_roundw
        case rel => exact ⟨j + 1, by omega, by go_num, ⟨_, _, HREL.out.1, HREL.out.2.1, by rw [HTK.out]; exact HREL.out.2.2.1⟩, HREL.out.2.2.2.1, HREL.out.2.2.2.2⟩
        case measure => simp [intOf]; omega
      | some sb =>
        obtain ⟨NS, hNS⟩ := HM8.out.sub n sb HSV.out.symm
        have HNS := Lib.hid hNS
        clear hNS
        refine wpList_drop_G (K := kK) (E := eB) _ rfl (.tmp 21) (.tmp 22) 128 rfl Try.underlying128 rfl HNS.out k rfl HKO.out (fun w9 hP9 hg9 => ?_)
        obtain ⟨N9, hP9'⟩ : ∃ N9, MapS sb N9 (fun z => if z = k then none else sub1 n z) w9 := ⟨_, hP9⟩
        have hU9 := upd_mono (upd_grown hg9) (fp' := fun b => b = sb) (fun i _ e => (Option.some.inj e).symm)
        have hm9 := mid_subDel HM8.out HSV.out.symm hU9 ⟨_, hP9'⟩
        have hb9 : Best L f w9 := by
          obtain ⟨NB, hNB⟩ := HB8.out
          exact ⟨NB, hm9.2 NB f hNB⟩
        have hk9 := (hU9.block bk (block_lt HK8.out) (mapG_off HNS.out HK8.out)).trans HK8.out
        have hu9 : Upd F1 w w9 := upd_trans HU8.out hU9 (fun i _ e => by have e' : i = sb := e; rw [e']; exact HM8.out.own.2.2.2.2 n sb HSV.out.symm)
        have hno9 := mapG_upd HNO8.out hU9 (fun e => (HM8.out.sne n sb HSV.out.symm).2.1 e.symm)
        have hsub := mapG_congr hP9' (f' := subF (delG E k) n) (fun z => by have := del_sub HDL.out (by rw [← HSV.out]; rfl) z; unfold subDel at this; rw [if_pos rfl] at this; exact this) rfl
        have HZ := Lib.hid (mapG_zero hsub)
        have HM9 := Lib.hid hm9.1
        have HB9 := Lib.hid hb9
        have HK9 := Lib.hid hk9
        have HU9 := Lib.hid hu9
        have HNO9 := Lib.hid hno9
        have HS9 := Lib.hid hP9'
        have hlen : ∀ ty, (Builtin.len_ #[128] ty #[.map (some sb)]).run Try.prog w9 = .ok (.int .i64 (N9 : Int)) w9 := fun ty => len_G Try.underlying128 hP9'
        have hlk : (Instr.lookup 119 (.map (some L.bo)) (.int .i64 n) false).run Try.prog w9 = .ok (.map (some sb)) w9 := by
          have h3 := look_G Try.underlying119 hno9 (x := n) HNOK.out
          rw [← HSV.out] at h3
          exact h3
        have q4 := block_cell hm9.1.blk 4
        have l0 := block_lt hm9.1.blk
        clear hP9 hg9 hP9' hU9 hm9 hb9 hk9 hu9 hno9 hsub
        go_simp
        by_cases hz : N9 = 0
        · have hz' : (N9 : Int) = 0 := by omega
          have HNN := Lib.hid (del_none (HZ.out.1 hz))
          clear hz
          go_wp2_with (first
            | (at_delete; refine wpList_drop_G (K := kI) (E := eM) _ rfl (.tmp 34) (.tmp 35) 119 rfl Try.underlying119 rfl HNO9.out n rfl HNOK.out (fun w10 hP10 hg10 => ?_))
            | go_in)
          have hU10 := upd_mono (upd_grown hg10) (fp' := fun b => b = L.bo) (fun i _ e => (Option.some.inj e).symm)
          have hm10 := mid_outDel HM9.out hU10 ⟨_, mapG_congr hP10 (fun z => rfl) rfl⟩
          have hb10 : Best L f w10 := by
            obtain ⟨NB, hNB⟩ := HB9.out
            exact ⟨NB, hm10.2 NB f hNB⟩
          have hk10 := (hU10.block bk (block_lt HK9.out) (mapG_off HNO9.out HK9.out)).trans HK9.out
          have hu10 : Upd F1 w w10 := upd_trans HU9.out hU10 (fun i _ e => by have e' : i = L.bo := e; rw [e']; exact HM9.out.own.2.2.1)
          have HREL := Lib.hid (And.intro hm10.1 (And.intro hb10 (And.intro (del_go HDL.out HNN.out) (And.intro hk10 hu10))))
          clear hU10 hm10 hb10 hk10 hu10 hP10 hg10 q4 l0 hlk hlen hix hz'
          go_wp2
          go_roundw
          case rel => exact ⟨j + 1, by omega, by go_num, ⟨_, _, HREL.out.1, HREL.out.2.1, by rw [HTK.out]; exact HREL.out.2.2.1⟩, HREL.out.2.2.2.1, HREL.out.2.2.2.2⟩
          case measure => simp [intOf]; omega
        · have hz' : ¬ (N9 : Int) = 0 := by omega
          have HNN := Lib.hid (show isNode (delG E k) n from Classical.byContradiction fun hc => hz (HZ.out.2 (fun x => by
            cases hx : subF (delG E k) n x with
            | none => rfl
            | some c => exact absurd (del_some (by rw [hx]; rfl)) hc)))
          clear hz
          go_wp2
          go_roundw
          case rel => exact ⟨j + 1, by omega, by go_num, ⟨_, _, HM9.out, HB9.out, by rw [HTK.out]; exact del_stay HDL.out HNN.out⟩, HK9.out, HU9.out⟩
          case measure => simp [intOf]; omega
    · obtain rfl : j = 2 := by omega
      obtain ⟨h1, h2⟩ := del_final HDL.out
      have HF := Lib.hid (show DropTo w0 L room h E F f k w (.returned (.tuple #[])) wi from ⟨rfl, S1, mid_own (mid_congr HM1.out h2) (by obtain ⟨NB, hNB⟩ := HB1.out; exact mapG_lt hNB) (fun b _ hf => by rw [HF1.out] at hf; exact hf.1), HB1.out, h1, upd_mono HUI.out (fun b _ hf => by rw [HF1.out] at hf; exact hf.1)⟩)
      clear h1 h2
      go_wp2
      go_end0
      exact HF.out
end Go.Proofs.Ytiabmdboacpmcaa
/- Places behind a horizon: the closure of Expire, maps.DeleteFunc. -/
namespace Go.Proofs.Ytiabmdboacpmcaa
open Go Go.RowKit Go.Sort Go.WideMaps Go.Maps
set_option maxHeartbeats 4000000

def goneB (h : Int) (S : Int → Option Nat) (x : Key) (u : Int) : Bool := decide (u < h) || (S x.a).isNone || (S x.b).isNone
theorem egEx (args : Array Value) (w : World) : (callFunc 78 args).run Try.prog w = .ok (.enter 78 args) w := enter_fn Try.func78 (by kernel_rfl) rfl args w
set_option maxRecDepth 100000 in
theorem expc_any (L : Loc) (room h : Int) (S : Int → Option Nat) (NO bf : Nat) (x : Key) (u : Int) (w : World) (hf : w.heap[bf]? = some (.cells #[ptr L.pf] 61 (0, 0)))
    (hblk : w.heap[L.pf]? = some (.cells #[ptr L.pm, .int .i64 room, .int .i64 h, .map (some L.be), .map (some L.bo), .map (some L.bb)] 122 (0, 0))) (hO : MapO L.bo NO (fun n => (S n).map some) w) (hx : ok3 x) :
    Calls Try.prog 78 #[k3 x, .int .i64 u, ptr bf] w fun e w' => e = .returned (.bool (goneB h S x u)) ∧ Ext w w' := by
  obtain ⟨xa, xb, xc⟩ := x
  obtain ⟨W, hW⟩ : ∃ W, W = w.alloc (.cells #[.int .i64 xa, .int .i64 xb, .int .i64 xc] 124) := ⟨_, rfl⟩
  have hE0 : Ext w W := by rw [hW]; exact ext_alloc (ext_refl _) _
  obtain ⟨bx, hbx⟩ : ∃ b, b = w.heap.size := ⟨_, rfl⟩
  have hX : W.heap[bx]? = some (.cells #[.int .i64 xa, .int .i64 xb, .int .i64 xc] 124 (0, 0)) := by rw [hW, hbx]; exact heap_alloc_new _ _
  obtain ⟨sa, hsa⟩ : ∃ s, s = S xa := ⟨_, rfl⟩
  obtain ⟨sb, hsb⟩ : ∃ s, s = S xb := ⟨_, rfl⟩
  have hlka : ∀ (d : Nat) (os : Array Obj), (Instr.lookup 119 (.map (some L.bo)) (.int .i64 xa) false).run Try.prog (grow (redrawn W d) os) = .ok (.map sa) (grow (redrawn W d) os) := fun d os => by
    have h3 := look_G Try.underlying119 (mapG_ext hO (ext_trans hE0 (ext_grow (ext_refl _) d os))) (x := xa) hx.1
    simp only [← hsa] at h3
    cases sa <;> exact h3
  have hlkb : ∀ (d : Nat) (os : Array Obj), (Instr.lookup 119 (.map (some L.bo)) (.int .i64 xb) false).run Try.prog (grow (redrawn W d) os) = .ok (.map sb) (grow (redrawn W d) os) := fun d os => by
    have h3 := look_G Try.underlying119 (mapG_ext hO (ext_trans hE0 (ext_grow (ext_refl _) d os))) (x := xb) hx.2.1
    simp only [← hsb] at h3
    cases sb <;> exact h3
  have hea := fun w => eql_nil sa w
  have heb := fun w => eql_nil sb w
  have HR := Lib.hid (show goneB h S ⟨xa, xb, xc⟩ u = (decide (u < h) || sa.isNone || sb.isNone) from by unfold goneB; simp only; rw [← hsa, ← hsb])
  have HE0 := Lib.hid hE0
  have HW := Lib.hid (And.intro hW hbx)
  have q0 := block_cell ((ext_block hE0 (block_lt hf)).trans hf) 0
  have f0 := block_lt ((ext_block hE0 (block_lt hf)).trans hf)
  have p2 := block_cell ((ext_block hE0 (block_lt hblk)).trans hblk) 2
  have p4 := block_cell ((ext_block hE0 (block_lt hblk)).trans hblk) 4
  have l0 := block_lt ((ext_block hE0 (block_lt hblk)).trans hblk)
  have x0 := block_cell hX 0
  have x1 := block_cell hX 1
  have lx := block_lt hX
  obtain ⟨r, hr⟩ : ∃ r, r = goneB h S ⟨xa, xb, xc⟩ u := ⟨_, rfl⟩
  rw [← hr] at HR ⊢
  clear hf hblk hO hx hW hE0 hbx hX hsa hsb hr
  simp only [k3]
  by_cases h1 : u < h
  · have hd1 : decide (u < h) = true := decide_eq_true h1
    have HV := Lib.hid (show r = true by rw [HR.out, hd1]; rfl)
    go_enter Try.func78, Try.ntmps78
    have hgc := cell_grown
    go_wp2
    rw [← HW.out.1, ← HW.out.2]
    refine wp_region_free 26 [0, 1, 2, 3, 4, 5, 6, 7, 8, 9, 10, 11, 12, 13, 14, 15, 16, 17, 18, 19, 20, 21, 22, 23, 24, 25] [] (by kernel_rfl) (by kernel_rfl) ?_
    repeat (refine wpLoose_step rfl (fun K hK => ?_); (try simp only [Oper.quietAt, Oper.quietUpon]); go_simp; (refine hK _ ?_; clear hK K))
    refine wpLoose_nil (wpFresh_nil (fun w2 hE2 _ => ?_))
    simp only [List.drop_succ_cons, List.drop_zero]
    have HF := Lib.hid (ext_trans HE0.out hE2)
    clear hE2 hgc hd1
    go_wp2
    refine bodyPost_ret (results_tmp rfl _ _ _) rfl ?_
    exact ⟨by rw [HV.out]; rfl, HF.out⟩
  · have hd1 : decide (u < h) = false := decide_eq_false h1
    cases sa with
    | none =>
      have HV := Lib.hid (show r = true by rw [HR.out, hd1]; rfl)
      go_enter Try.func78, Try.ntmps78
      have hgc := cell_grown
      go_wp2
      rw [← HW.out.1, ← HW.out.2]
      refine wp_region_free 26 [0, 1, 2, 3, 4, 5, 6, 7, 8, 9, 10, 11, 12, 13, 14, 15, 16, 17, 18, 19, 20, 21, 22, 23, 24, 25] [] (by kernel_rfl) (by kernel_rfl) ?_
      repeat (refine wpLoose_step rfl (fun K hK => ?_); (try simp only [Oper.quietAt, Oper.quietUpon]); go_simp; (refine hK _ ?_; clear hK K))
      refine wpLoose_nil (wpFresh_nil (fun w2 hE2 _ => ?_))
      simp only [List.drop_succ_cons, List.drop_zero]
      have HF := Lib.hid (ext_trans HE0.out hE2)
      clear hE2 hgc hd1
      go_wp2
      refine bodyPost_ret (results_tmp rfl _ _ _) rfl ?_
      exact ⟨by rw [HV.out]; rfl, HF.out⟩
    | some sa =>
      have HV := Lib.hid (show r = sb.isNone by rw [HR.out, hd1]; rfl)
      go_enter Try.func78, Try.ntmps78
      have hgc := cell_grown
      go_wp2
      rw [← HW.out.1, ← HW.out.2]
      refine wp_region_free 26 [0, 1, 2, 3, 4, 5, 6, 7, 8, 9, 10, 11, 12, 13, 14, 15, 16, 17, 18, 19, 20, 21, 22, 23, 24, 25] [] (by kernel_rfl) (by kernel_rfl) ?_
      repeat (refine wpLoose_step rfl (fun K hK => ?_); (try simp only [Oper.quietAt, Oper.quietUpon]); go_simp; (refine hK _ ?_; clear hK K))
      refine wpLoose_nil (wpFresh_nil (fun w2 hE2 _ => ?_))
      simp only [List.drop_succ_cons, List.drop_zero]
      have HF := Lib.hid (ext_trans HE0.out hE2)
      clear hE2 hgc hd1
      go_wp2
      refine bodyPost_ret (results_tmp rfl _ _ _) rfl ?_
      exact ⟨by rw [HV.out]; rfl, HF.out⟩
/-- what is left of places -/
def leftB (h : Int) (S : Int → Option Nat) (f : Bst) : Bst := fun x => match f x with | some u => if goneB h S x u = true then none else some u | none => none
def leftD (h : Int) (S : Int → Option Nat) (f : Bst) (done : List Key) : Bst := fun x => if x ∈ done then leftB h S f x else f x
theorem leftD_nil (h : Int) (S : Int → Option Nat) (f : Bst) : leftD h S f [] = f := by
  funext x
  unfold leftD
  rw [if_neg (by simp)]
theorem leftD_keep {h : Int} {S : Int → Option Nat} {f : Bst} {done : List Key} {x : Key} {u : Int} (hx : f x = some u) (hg : goneB h S x u = false) (z : Key) : leftD h S f (done ++ [x]) z = leftD h S f done z := by
  unfold leftD
  by_cases e : z = x
  · subst e
    have h1 : leftB h S f z = some u := by unfold leftB; rw [hx]; simp only; rw [if_neg (by rw [hg]; decide)]
    rw [if_pos (by simp), h1]
    split
    · rfl
    · exact hx.symm
  · simp [e]
theorem leftD_drop {h : Int} {S : Int → Option Nat} {f : Bst} {done : List Key} {x : Key} {u : Int} (hx : f x = some u) (hg : goneB h S x u = true) (z : Key) : leftD h S f (done ++ [x]) z = if z = x then none else leftD h S f done z := by
  unfold leftD
  by_cases e : z = x
  · subst e
    rw [if_pos (by simp), if_pos rfl]
    unfold leftB
    rw [hx]
    simp only
    rw [if_pos hg]
  · simp [e]
theorem leftD_all {h : Int} {S : Int → Option Nat} {f : Bst} {done : List Key} (hall : ∀ x, (leftD h S f done x).isSome = true → x ∈ done) : leftD h S f done = leftB h S f := by
  funext x
  by_cases hm : x ∈ done
  · unfold leftD; rw [if_pos hm]
  · have h1 : leftD h S f done x = f x := by unfold leftD; rw [if_neg hm]
    cases hx : f x with
    | none =>
      rw [h1, hx]
      unfold leftB
      rw [hx]
    | some u => exact absurd (hall x (by rw [h1, hx]; rfl)) hm
set_option maxRecDepth 100000 in
theorem delf_any (L : Loc) (room h : Int) (S : Int → Option Nat) (NO NP bf : Nat) (f : Bst) (w : World) (hP : MapP L.bb NP f w) (hf : w.heap[bf]? = some (.cells #[ptr L.pf] 61 (0, 0)))
    (hblk : w.heap[L.pf]? = some (.cells #[ptr L.pm, .int .i64 room, .int .i64 h, .map (some L.be), .map (some L.bo), .map (some L.bb)] 122 (0, 0))) (hO : MapO L.bo NO (fun n => (S n).map some) w) (hne : L.bo ≠ L.bb) :
    Calls Try.prog 77 #[.map (some L.bb), .func (.func 78) #[] #[ptr bf]] w fun e w' => e = .returned (.tuple #[]) ∧ (∃ N, MapP L.bb N (leftB h S f) w') ∧ Upd (fun b => b = L.bb) w w' := by
  have HP := Lib.hid hP
  have HFB := Lib.hid hf
  have HBLK := Lib.hid hblk
  have HO := Lib.hid hO
  have HNE := Lib.hid hne
  have eg := egEx
  clear hf hblk hO hne hP
  go_enter Try.func77, Try.ntmps77
  go_wp2_with (first
    | (at_range; refine wpList_range_G _ rfl _ _ rfl Try.underlying120 rfl HP.out ?_; intro w2 r hr0; have HLR := Lib.hid hr0; clear hr0; intro hrng hE2 hs2)
    | go_in)
  have HRN := Lib.hid hrng
  have HE2 := Lib.hid hE2
  clear hrng hE2 hs2
  go_simp
  go_loopw [] (fun wn => ∃ (done : List Key) (N : Nat), RngG kP eI L.bb r N (leftD h S f done) done wn ∧ Upd (fun b => b = L.bb) w wn) (fun wn => wn.rangeLeft L.bb r)
  case atStart => exact ⟨[], NP, by rw [leftD_nil]; exact HRN.out, upd_of_ext HE2.out⟩
  case round =>
    rename World => wn
    obtain ⟨done, NN, hR, hU⟩ := hrel
    have HR := Lib.hid hR
    have HU := Lib.hid hU
    clear hR hU
    go_wp2_with (first
      | (at_next; refine wpList_next_G wn rfl _ rfl rfl HR.out ?_ ?_)
      | go_in)
    · intro hall
      have HF := Lib.hid (show (∃ N, MapP L.bb N (leftB h S f) wn) ∧ Upd (fun b => b = L.bb) w wn from ⟨⟨NN, by rw [← leftD_all hall]; exact rngG_map HR.out⟩, HU.out⟩)
      clear hall
      go_wp2
      go_end0
      exact ⟨rfl, HF.out.1, HF.out.2⟩
    · intro x lasts w3 hfx hnx hR3 hlt3 hg3 hs3 hent
      rw [show kP.val x = .agg #[.int .i64 x.a, .int .i64 x.b, .int .i64 x.c] from rfl, show eI.val lasts = .int .i64 lasts from rfl] at hent ⊢
      have hfx' : f x = some lasts := by
        unfold leftD at hfx
        rw [if_neg hnx] at hfx
        exact hfx
      have hok : ok3 x := (mapG_out (rngG_map HR.out) hfx).1
      obtain ⟨xa, xb, xc⟩ := x
      have hU3 := upd_grown hg3
      have hrW : w.heap.size ≤ r := by rw [HLR.out]; exact Nat.le_refl _
      have hrb : r ≠ L.bb := rngG_ne HR.out
      obtain ⟨wa, hwa⟩ : ∃ x', x' = w3.alloc (.cells #[.int .i64 xa, .int .i64 xb, .int .i64 xc] 124) := ⟨_, rfl⟩
      have hEa : Ext w3 wa := by rw [hwa]; exact ext_alloc (ext_refl _) _
      obtain ⟨bx, hbx⟩ : ∃ b, b = w3.heap.size := ⟨_, rfl⟩
      have hxa : wa.heap[bx]? = some (.cells #[.int .i64 xa, .int .i64 xb, .int .i64 xc] 124 (0, 0)) := by rw [hwa, hbx]; exact heap_alloc_new _ _
      have hUa : Upd (fun b => b = L.bb) w wa := upd_trans (upd_trans HU.out hU3 (fun j hj e => absurd hj (by have h5 : r = j := Option.some.inj e; omega))) (upd_of_ext (fp := fun _ => False) hEa) (fun _ _ h => h.elim)
      have HUA := Lib.hid hUa
      have HRA := Lib.hid (rngG_ext hR3 hEa)
      have HLA := Lib.hid (show wa.rangeLeft L.bb r < wn.rangeLeft L.bb r by rw [left_ext hR3 hEa]; exact hlt3)
      have HXA := Lib.hid hxa
      have HFX := Lib.hid hfx'
      have HNX := Lib.hid hnx
      have HOK := Lib.hid hok
      have HRB := Lib.hid hrb
      have hba := (hUa.block L.pf (block_lt HBLK.out) (mapG_off HP.out HBLK.out)).trans HBLK.out
      have hfa := (hUa.block bf (block_lt HFB.out) (mapG_off HP.out HFB.out)).trans HFB.out
      have hoa := mapG_upd HO.out hUa HNE.out
      have HC := Lib.hid (expc_any L room h S NO bf ⟨xa, xb, xc⟩ lasts wa hfa hba hoa hok)
      obtain ⟨gone, hgone⟩ : ∃ g, g = goneB h S ⟨xa, xb, xc⟩ lasts := ⟨_, rfl⟩
      rw [← hgone] at HC
      have HG := Lib.hid hgone
      have HWB := Lib.hid (And.intro hwa hbx)
      clear hfx hfx' hnx hR3 hlt3 hg3 hs3 hU3 hrW hrb hEa hxa hUa hba hfa hoa hok hgone hwa hbx
      go_wp2_with fail
      rw [← HWB.out.1, ← HWB.out.2]
      have x0 := block_cell HXA.out 0
      have x1 := block_cell HXA.out 1
      have x2 := block_cell HXA.out 2
      have lx := block_lt HXA.out
      go_wp2_with (go_at_fn 78; refine HC.out.mono ?_; rintro e w4 ⟨rfl, hE4⟩; have HE4 := Lib.hid hE4; clear hE4; refine halt_here ?_)
      refine go_on ?_
      have HR4 := Lib.hid (rngG_ext HRA.out HE4.out)
      have HL4 := Lib.hid (show w4.rangeLeft L.bb r < wn.rangeLeft L.bb r by rw [left_ext HRA.out HE4.out]; exact HLA.out)
      have HU4 := Lib.hid (upd_trans HUA.out (upd_of_ext (fp := fun _ => False) HE4.out) (fun _ _ h => h.elim))
      have hx4 := (ext_block HE4.out (block_lt HXA.out)).trans HXA.out
      clear x0 x1 x2 lx
      have x0 := block_cell hx4 0
      have x1 := block_cell hx4 1
      have x2 := block_cell hx4 2
      have lx := block_lt hx4
      clear hx4
      cases gone with
      | false =>
        have HR5 := Lib.hid (show RngG kP eI L.bb r NN (leftD h S f (done ++ [⟨xa, xb, xc⟩])) (done ++ [⟨xa, xb, xc⟩]) w4 from by rw [show leftD h S f (done ++ [⟨xa, xb, xc⟩]) = leftD h S f done from funext (leftD_keep HFX.out HG.out.symm)]; exact HR4.out)
        go_wp2
        go_roundw
        case rel => exact ⟨_, _, HR5.out, HU4.out⟩
        case measure => exact HL4.out
      | true =>
        go_wp2_with (first
          | (at_delete; refine wpList_dropR_G (K := kP) (E := eI) _ rfl (.tmp 17) (.tmp 18) 120 rfl Try.underlying120 rfl HR4.out ⟨xa, xb, xc⟩ rfl HOK.out (by simp) (fun w5 hR5 hl5 hg5 => ?_))
          | go_in)
        have HR5 := Lib.hid (show ∃ N, RngG kP eI L.bb r N (leftD h S f (done ++ [⟨xa, xb, xc⟩])) (done ++ [⟨xa, xb, xc⟩]) w5 from ⟨_, by rw [show leftD h S f (done ++ [⟨xa, xb, xc⟩]) = fun z => if z = ⟨xa, xb, xc⟩ then none else leftD h S f done z from funext (leftD_drop HFX.out HG.out.symm)]; exact hR5⟩)
        have HL5 := Lib.hid (Nat.lt_of_le_of_lt hl5 HL4.out)
        have HU5 := Lib.hid (upd_trans HU4.out (upd_mono (upd_grown hg5) (fp' := fun b => b = L.bb) (fun i _ e => (Option.some.inj e).symm)) (fun _ _ h => h))
        clear hR5 hl5 hg5 x0 x1 x2 lx
        rw [show ∀ (a : Act) (v : Value), a.put none v = a from fun _ _ => rfl]
        go_roundw
        case rel =>
          obtain ⟨N5, h5⟩ := HR5.out
          exact ⟨_, N5, h5, HU5.out⟩
        case measure => exact HL5.out
end Go.Proofs.Ytiabmdboacpmcaa
/- ReachMore. -/
namespace Go.Proofs.Ytiabmdboacpmcaa
open Go Go.RowKit Go.Sort Go.WideMaps Go.Maps
set_option maxHeartbeats 4000000

theorem foR_low {t : Tr} {E : List Ed} {H H' N : Nat} {w0 : World} {L : Loc} {ve : Value} {w : World} (h : FoR t E H N w0 L ve w) (hh : H' ≤ H) : FoR t E H' N w0 L ve w := by
  obtain ⟨F, h1, h2, h3, h4⟩ := h
  exact ⟨F, h1, fun b hb => ⟨Nat.le_trans hh (h2 b hb).1, (h2 b hb).2⟩, rowF_low h3 hh, h4⟩
set_option maxRecDepth 100000 in
theorem more_law (v va vb : Value) (L : List Nd) (LA LB : List AR) (w : World) (hv : RdNd w v L) (ha : RdAR w va LA) (hb : RdAR w vb LB) : Calls Try.prog 9 #[v, va, vb] w fun e w' => e = .returned (.bool true) ∧ Ext w w' := by
  have HV := Lib.hid hv
  have HA := Lib.hid ha
  have HB := Lib.hid hb
  obtain ⟨A1, c1, rfl, hok1, -⟩ := ha
  obtain ⟨A2, c2, rfl, hok2, -⟩ := hb
  have HOK := Lib.hid (And.intro hok1 hok2)
  obtain ⟨na, hna⟩ : ∃ n, n = LA.length := ⟨_, rfl⟩
  obtain ⟨nb, hnb⟩ : ∃ n, n = LB.length := ⟨_, rfl⟩
  rw [← hna] at HA ⊢
  rw [← hnb] at HB ⊢
  have HN := Lib.hid (And.intro hna hnb)
  clear hv hna hnb hok1 hok2
  go_enter Try.func9, Try.ntmps9
  go_wp2_with fail
  refine (awake11_any _).mono ?_
  rintro e w1 ⟨rfl, hE1⟩
  have HE1 := Lib.hid hE1
  clear hE1
  by_cases hbna : (10 : Int) < (na : Int)
  · go_wp2_with fail
    refine (awake11_any _).mono ?_
    rintro e w2 ⟨rfl, hE2⟩
    have HE2 := Lib.hid (ext_trans HE1.out hE2)
    clear hE2
    go_wp2
    refine bodyPost_ret (results_tmp rfl _ _ _) rfl ?_
    exact ⟨rfl, HE2.out⟩
  by_cases hbnb : (10 : Int) < (nb : Int)
  · go_wp2_with fail
    refine (awake11_any _).mono ?_
    rintro e w2 ⟨rfl, hE2⟩
    have HE2 := Lib.hid (ext_trans HE1.out hE2)
    clear hE2
    go_wp2
    refine bodyPost_ret (results_tmp rfl _ _ _) rfl ?_
    exact ⟨rfl, HE2.out⟩
  go_wp2_with fail
  refine (fix_any v L _ (rdNd_ext HV.out HE1.out)).mono ?_
  rintro e w2 ⟨L', v', rfl, hr, hF, hl, hE2⟩
  have HR := Lib.hid hr
  have HF := Lib.hid hF
  have HE2 := Lib.hid (ext_trans HE1.out hE2)
  have hl8 : L'.length ≤ 8 := by omega
  clear hr hF hE2 hl
  go_wp2_with fail
  refine (tree_fix 8 (by decide) (by decide) v' L' _ HR.out HF.out hl8).mono ?_
  rintro e w3 ⟨rb, n, t, k, z, A, q, c, rfl, hn, hfit, hlst, hpv, hE3⟩
  obtain ⟨hfb, hch, -⟩ := fit_chk hfit (by decide)
  have hsz : sizeT t ≤ 300 := by have := hfit.2.1; omega
  have HLS := Lib.hid hlst
  have HPV := Lib.hid hpv
  have HE3 := Lib.hid (ext_trans HE2.out hE3)
  clear hfit hlst hpv hE3 hfb hl8
  go_wp2_with fail
  have hE4 := ext_alloc (ext_refl w3) (.cells #[.int .i64 k, .int .i64 z, .slice A q c] 30)
  have hB4 := heap_alloc_new w3 (.cells #[.int .i64 k, .int .i64 z, .slice A q c] 30)
  obtain ⟨w4, hw4⟩ : ∃ w4, w4 = w3.alloc (.cells #[.int .i64 k, .int .i64 z, .slice A q c] 30) := ⟨_, rfl⟩
  obtain ⟨p6, hp6⟩ : ∃ p6, p6 = w3.heap.size := ⟨_, rfl⟩
  rw [← hw4] at hE4 hB4 ⊢
  rw [← hp6] at hB4 ⊢
  have HB4 := Lib.hid hB4
  have HE4 := Lib.hid (ext_trans HE3.out hE4)
  have HL4 := Lib.hid (lst_ext HLS.out hE4)
  have HP4 := Lib.hid (PV_ext HPV.out hE4)
  clear hw4 hp6 hE4 hB4 HLS HPV HE3
  refine (rcheck_any t rb n 0 _ (by omega) hn HL4.out).mono ?_
  rintro e w5 ⟨rfl, hE5⟩
  have h45 := (ext_block hE5 (block_lt HB4.out)).trans HB4.out
  have HP5 := Lib.hid (PV_ext HP4.out hE5)
  have HB5 := Lib.hid h45
  have HE5 := Lib.hid (ext_trans HE4.out hE5)
  clear hE5 h45 HP4 HB4 HE4
  by_cases hz : chk t = 0
  · rw [hz]
    have HZ := Lib.hid hz
    have hna : LA.length ≤ 10 := by rw [← HN.out.1]; omega
    have hnb : LB.length ≤ 10 := by rw [← HN.out.2]; omega
    have b0 := block_cell HB5.out 0
    have b1 := block_cell HB5.out 1
    have b2 := block_cell HB5.out 2
    have bl := block_lt HB5.out
    clear hz hch
    go_wp2_with fail
    have ha5 := rdAR_ext HA.out HE5.out
    refine (forest_any t _ _ LA w5 HP5.out HZ.out ha5 (by omega)).mono ?_
    rintro e w6 ⟨w0, Lc, ve, rfl, hF6, hE6⟩
    have HF6 := Lib.hid hF6
    have HB6 := Lib.hid ((ext_block hE6 (block_lt HB5.out)).trans HB5.out)
    have HP6 := Lib.hid (PV_ext HP5.out hE6)
    have HE6 := Lib.hid (ext_trans HE5.out hE6)
    have HAB := Lib.hid (And.intro (rdAR_ext HA.out HE6.out) (rdAR_ext HB.out HE6.out))
    clear ha5 hF6 hE6 b0 b1 b2 bl
    go_wp2_with fail
    have hCE : ∀ a b, Ext w6 a → Ext a b → Ext w6 b := fun a b h h' => ext_trans h h'
    have ux0 : ∀ p : CW (Ext w6), p.val.cell? ⟨p6, 0, none⟩ = some (.int .i64 k) := fun p => block_cell ((ext_block p.ok (block_lt HB6.out)).trans HB6.out) 0
    have ux1 : ∀ p : CW (Ext w6), p.val.cell? ⟨p6, 1, none⟩ = some (.int .i64 z) := fun p => block_cell ((ext_block p.ok (block_lt HB6.out)).trans HB6.out) 1
    have ux2 : ∀ p : CW (Ext w6), p.val.cell? ⟨p6, 2, none⟩ = some (.slice A q c) := fun p => block_cell ((ext_block p.ok (block_lt HB6.out)).trans HB6.out) 2
    have uxl : ∀ p : CW (Ext w6), p6 < p.val.heap.size := fun p => ext_lt p.ok (block_lt HB6.out)
    refine wp_region_evt (C := Ext w6) hCE (ext_refl w6) [2, 4] [0] [(1, noneF elAR w6.heap.size), (3, rowF elAR w6.heap.size LA), (5, rowF elAR w6.heap.size (LA ++ LB)), (6, FoT t (edsL (LA ++ LB)) w6.heap.size)] [7, 8, 9, 10, 11] [1, 3, 5, 6] rfl (by kernel_rfl) (by kernel_rfl) (fun _ _ d _ _ h => by cases d <;> exact h) ?_
    refine wpPre_step rfl (fun K hK => ?_)
    go_simp
    refine hK _ ?_
    clear hK K
    refine wpPre_step rfl (fun K hK => ?_)
    go_simp
    refine hK _ ?_
    clear hK K
    refine wpPre_nil ?_
    refine wpC_step rfl (fun K hK => ?_)
    (try simp only [Oper.quietAt, Oper.quietUpon])
    go_simp
    refine ⟨_, fun _ => rfl, hK _ ?_⟩
    clear hK K
    refine wpC_nil ?_
    clear ux0 ux1 ux2 uxl hCE
    refine wpCh_step rfl rfl noneF_ext (fun w7 hE7 _ => ?_) (fun v48 => ?_)
    · simp only [runsAt]
      go_simp
      exact ⟨ext_trans hE7 (ext_alloc (ext_refl _) _), w7.heap.size, rfl, ext_size hE7, heap_alloc_new w7 _⟩
    refine wpCh_step rfl rfl rowF_ext (fun w7 hE7 hR7 => ?_) (fun v50 => ?_)
    · refine runs_append (t := 60) (.tmp 48) (.tmp 49) rfl rfl rfl ?_
      obtain ⟨v', w', h1, h2, h3⟩ := append_onto tpAR 60 w6.heap.size _ _ [] LA w7 (noneF_row hR7) (srcOf_acts (rdAR_ext HAB.out.1 hE7)) (by rw [List.length_nil]; omega) (ext_size hE7)
      exact ⟨v', w', h1, ext_of_upd (upd_trans (upd_of_ext hE7) (upd_grown h3) (fun i hi e => absurd hi (by have := (noneF_row hR7).2 _ e; omega))), h2⟩
    refine wpCh_step rfl rfl rowF_ext (fun w7 hE7 hR7 => ?_) (fun v52 => ?_)
    · refine runs_append (t := 60) (.tmp 50) (.tmp 51) rfl rfl rfl ?_
      obtain ⟨v', w', h1, h2, h3⟩ := append_onto tpAR 60 w6.heap.size _ _ LA LB w7 hR7 (srcOf_acts (rdAR_ext HAB.out.2 hE7)) (by omega) (ext_size hE7)
      exact ⟨v', w', h1, ext_of_upd (upd_trans (upd_of_ext hE7) (upd_grown h3) (fun i hi e => absurd hi (by have := hR7.2 _ e; omega))), h2⟩
    refine wpCh_step rfl rfl foT_ext (fun w7 hE7 hR7 => ?_) (fun v53 => ?_)
    · simp only [runsAt]
      go_simp
      refine (forest_any t _ _ (LA ++ LB) w7 (PV_ext HP6.out hE7) HZ.out (rdAR_row hR7.1 (fun x hx => (List.mem_append.1 hx).elim (HOK.out.1 x) (HOK.out.2 x))) (by rw [List.length_append]; omega)).mono ?_
      rintro e w8 ⟨wv, L8, ve8, rfl, hF8, hE8⟩
      exact ⟨_, rfl, ext_trans hE7 hE8, wv, L8, ve8, _, rfl, foR_low hF8 (ext_size hE7)⟩
    refine wpCh_nil (fun w7 hE7 hR7 => ?_)
    obtain ⟨w0', L', ve', N', rfl, hF7⟩ := hR7
    have HF7 := Lib.hid hF7
    have HE7 := Lib.hid (ext_trans HE6.out hE7)
    have HF6' := Lib.hid (foR_ext HF6.out hE7)
    clear hF7 hE7
    repeat (refine wpPre_step rfl (fun K hK => ?_); go_simp; refine hK _ ?_; clear hK K)
    refine wpPre_nil ?_
    go_wp2_with fail
    refine (pairs_foR HF7.out (edsL_nd _) (Nat.le_trans (edsL_len _) (by rw [List.length_append]; omega))).mono ?_
    rintro e w8 ⟨bq, NB, pb, rfl, hQb, hPb, -, hE8⟩
    have HQB := Lib.hid hQb
    have HPB := Lib.hid hPb
    have HF8 := Lib.hid (foR_ext HF6'.out hE8)
    have HE8 := Lib.hid (ext_trans HE7.out hE8)
    clear hQb hPb hE8
    go_wp2_with fail
    refine (pairs_foR HF8.out (edsL_nd _) (Nat.le_trans (edsL_len _) (by omega))).mono ?_
    rintro e w9 ⟨bp, NA, pa, rfl, hQa, hPa, hsa, hE9⟩
    have hne : bq ≠ bp := fun e => by have := mapG_lt HQB.out; omega
    have HNE := Lib.hid hne
    have HQA := Lib.hid hQa
    have HPA := Lib.hid hPa
    have HQB9 := Lib.hid (mapG_ext HQB.out hE9)
    have HE9 := Lib.hid (ext_trans HE8.out hE9)
    clear hQa hPa hE9 hne hsa
    go_wp2_with (first
      | (at_range; refine wpList_range_G _ rfl _ _ rfl Try.underlying65 rfl HQA.out ?_; intro wr r hr0; have HLR := Lib.hid hr0; clear hr0; intro hrng hEr hs2)
      | go_in)
    have HRN := Lib.hid hrng
    have HER := Lib.hid hEr
    clear hrng hEr hs2
    go_simp
    go_loopw [15] (fun _ wn => ∃ (done : List Two), RngG kQ eI bp r NA pa done wn ∧ Ext w9 wn) (fun _ wn => wn.rangeLeft bp r)
    case atStart => exact ⟨[], HRN.out, HER.out⟩
    case round =>
      rename World => wn
      obtain ⟨done, hR, hE⟩ := hrel
      have HR := Lib.hid hR
      have HE := Lib.hid hE
      clear hR hE
      go_wp2_with (first
        | (at_next; refine wpList_next_G wn rfl _ rfl rfl HR.out ?_ ?_)
        | go_in)
      · intro hall
        have HF := Lib.hid (ext_trans HE9.out HE.out)
        clear hall
        go_wp2
        refine bodyPost_ret (results_tmp rfl _ _ _) rfl ?_
        exact ⟨rfl, HF.out⟩
      · intro x lasts w3' hfx hnx hR3 hlt3 hg3 hs3 hent
        rw [show kQ.val x = .agg #[.int .i64 x.a, .int .i64 x.b] from rfl, show eI.val lasts = .int .i64 lasts from rfl] at hent ⊢
        obtain ⟨xa, xb⟩ := x
        obtain ⟨u, hu, hlu⟩ := prsOf_le HPA.out HPB.out (leG_more LA LB) hfx
        have hE3 : Ext w9 w3' := ext_of_upd (upd_trans (upd_of_ext HE.out) (upd_grown hg3) (fun j hj e => absurd hj (by have h5 : r = j := Option.some.inj e; have := HLR.out; omega)))
        have hok : ok2 ⟨xa, xb⟩ := (mapG_out HQA.out hfx).1
        have hlk : (Instr.lookup 65 (.map (some bq)) (.agg #[.int .i64 xa, .int .i64 xb]) true).run Try.prog (w3'.alloc (.cells #[.int .i64 xa, .int .i64 xb] 68)) = .ok (.tuple #[.int .i64 u, .bool true]) (w3'.alloc (.cells #[.int .i64 xa, .int .i64 xb] 68)) := by
          have h3 := look2_G Try.underlying65 (mapG_ext HQB9.out (ext_trans hE3 (ext_alloc (ext_refl _) (.cells #[.int .i64 xa, .int .i64 xb] 68)))) (x := ⟨xa, xb⟩) hok
          rw [hu] at h3
          exact h3
        have HR3 := Lib.hid (rngG_ext hR3 (ext_alloc (ext_refl _) (.cells #[.int .i64 xa, .int .i64 xb] 68)))
        have HL3 := Lib.hid (show (w3'.alloc (.cells #[.int .i64 xa, .int .i64 xb] 68)).rangeLeft bp r < wn.rangeLeft bp r by rw [left_ext hR3 (ext_alloc (ext_refl _) _)]; exact hlt3)
        have HE3 := Lib.hid (ext_trans hE3 (ext_alloc (ext_refl _) (.cells #[.int .i64 xa, .int .i64 xb] 68)))
        have hlt : ¬ u < lasts := by omega
        clear hfx hnx hR3 hlt3 hg3 hs3 hu hE3 hok
        go_wp2
        go_roundw
        case rel => exact ⟨_, HR3.out, HE3.out⟩
        case measure => exact HL3.out
  · have hzb : decide (chk t = 0) = false := by simpa using hz
    go_wp2
    refine bodyPost_ret (results_tmp rfl _ _ _) rfl ?_
    exact ⟨rfl, HE5.out⟩
end Go.Proofs.Ytiabmdboacpmcaa
/- Has, walked; bounds of edges; the pairs of a path are one. -/
namespace Go.Proofs.Ytiabmdboacpmcaa
open Go Go.RowKit Go.Sort Go.WideMaps Go.Maps
set_option maxHeartbeats 4000000

theorem addL_mem : ∀ {E : List Ed} {k : Key} {u : Int} {e : Ed}, e ∈ addL E k u → e ∈ E ∨ (e.1 = k ∧ e.2 = u)
  | [], k, u, e, h => by
    simp only [addL, List.mem_singleton] at h
    subst h
    exact .inr ⟨rfl, rfl⟩
  | x :: L, k, u, e, h => by
    rw [addL] at h
    split at h
    · rename_i hx
      rcases List.mem_cons.1 h with h | h
      · subst h
        simp only
        split
        · exact .inr ⟨hx, rfl⟩
        · exact .inl (List.mem_cons_self ..)
      · exact .inl (List.mem_cons_of_mem _ h)
    · rcases List.mem_cons.1 h with h | h
      · exact .inl (by rw [h]; exact List.mem_cons_self ..)
      · rcases addL_mem h with h1 | h1
        · exact .inl (List.mem_cons_of_mem _ h1)
        · exact .inr h1
/-- an edge of small numbers -/
def smallE (e : Ed) : Prop := 0 ≤ e.1.a ∧ e.1.a < 5 ∧ 0 ≤ e.1.b ∧ e.1.b < 5 ∧ 0 ≤ e.1.c ∧ e.1.c < 5 ∧ -1000 < e.2 ∧ e.2 < 1000
theorem foldl_small : ∀ (L : List AR) (E : List Ed), (∀ e ∈ E, smallE e) → ∀ e ∈ L.foldl (fun E x => addL E (absK x.key) (untZ x.till)) E, smallE e
  | [], _, h => h
  | x :: L, E, h => foldl_small L _ (fun e he => by
    rcases addL_mem he with h1 | ⟨h1, h2⟩
    · exact h e h1
    · have ha := absZ_le x.key.a
      have hb := absZ_le x.key.b
      have hc := absZ_le x.key.c
      have hu := untZ_le x.till
      unfold smallE
      rw [h1, h2]
      unfold absK
      simp only
      omega)
theorem edsL_small (L : List AR) : ∀ e ∈ edsL L, smallE e := foldl_small L [] (fun e he => by cases he)
theorem smallE_ok {e : Ed} (h : smallE e) : ok3 e.1 ∧ okI e.2 := by
  obtain ⟨h1, h2, h3, h4, h5, h6, h7, h8⟩ := h
  exact ⟨⟨okI_iff.2 (by omega), okI_iff.2 (by omega), okI_iff.2 (by omega)⟩, okI_iff.2 (by omega)⟩
theorem prs_one {L : List Sy → Prop} {E : Gr3} {p p' : Prs} (h : PrsOf L E p) (h' : PrsOf L E p') (q : Two) : p q = p' q := by
  obtain ⟨x, y⟩ := q
  cases hp : p ⟨x, y⟩ with
  | some v => exact ((h'.is x y v).2 ((h.is x y v).1 hp)).symm
  | none =>
    cases hp' : p' ⟨x, y⟩ with
    | none => rfl
    | some v =>
      have := (h.is x y v).2 ((h'.is x y v).1 hp')
      rw [hp] at this
      cases this
set_option maxRecDepth 100000 in
theorem has_foR {t : Tr} {E : List Ed} {H N : Nat} {w0 : World} {L : Loc} {ve : Value} {w : World} {p : Prs} (x y : Int) (h : FoR t E H N w0 L ve w) (hnd : KeysNd E) (hl : E.length ≤ 100) (hx : okI x) (hy : okI y) (hp : PrsOf (Words t) (grOf E) p) :
    Calls Try.prog 40 #[ptr L.pf, .int .i64 x, .int .i64 y] w fun e w' => e = .returned (.bool (p ⟨x, y⟩).isSome) ∧ Ext w w' := by
  have HP := Lib.hid (pairs_foR h hnd hl)
  have HX := Lib.hid (show ok2 ⟨x, y⟩ from ⟨hx, hy⟩)
  have HPP := Lib.hid hp
  clear h hnd hl hx hy hp
  go_enter Try.func40, Try.ntmps40
  go_wp2_with fail
  refine HP.out.mono ?_
  rintro e w1 ⟨qb, Nq, p', rfl, hQ, hP, -, hE⟩
  have hpe := prs_one hP HPP.out ⟨x, y⟩
  have HE := Lib.hid hE
  cases hpc : p ⟨x, y⟩ with
  | none =>
    have HB := Lib.hid (show (p ⟨x, y⟩).isSome = false by rw [hpc]; rfl)
    have hlk : (Instr.lookup 65 (.map (some qb)) (.agg #[.int .i64 x, .int .i64 y]) true).run Try.prog w1 = .ok (.tuple #[.int .i64 0, .bool false]) w1 := by
      have h3 := look2_G Try.underlying65 hQ (x := ⟨x, y⟩) HX.out
      rw [hpe, hpc] at h3
      exact h3
    clear hQ hP hpe hE hpc
    go_wp2
    refine bodyPost_ret (results_tmp rfl _ _ _) rfl ?_
    exact ⟨by rw [HB.out]; rfl, HE.out⟩
  | some v =>
    have HB := Lib.hid (show (p ⟨x, y⟩).isSome = true by rw [hpc]; rfl)
    have hlk : (Instr.lookup 65 (.map (some qb)) (.agg #[.int .i64 x, .int .i64 y]) true).run Try.prog w1 = .ok (.tuple #[.int .i64 v, .bool true]) w1 := by
      have h3 := look2_G Try.underlying65 hQ (x := ⟨x, y⟩) HX.out
      rw [hpe, hpc] at h3
      exact h3
    clear hQ hP hpe hE hpc
    go_wp2
    refine bodyPost_ret (results_tmp rfl _ _ _) rfl ?_
    exact ⟨by rw [HB.out]; rfl, HE.out⟩
end Go.Proofs.Ytiabmdboacpmcaa
/- Nodes of edges, rising. -/
namespace Go.Proofs.Ytiabmdboacpmcaa
open Go Go.RowKit Go.Sort Go.WideMaps Go.Maps
set_option maxHeartbeats 4000000

def elJ : El Int := ⟨fun n => [.int .i64 n], 1, 3, by decide, fun _ => rfl, fun x u hu => by rw [List.mem_singleton.1 hu]; rfl⟩
noncomputable def tpJ : Tp Try.prog 52 elJ := ⟨(Try.prog.info? 3).get (by kernel_rfl), .int .i64 0, 8, Try.underlying52, by kernel_rfl, by kernel_rfl, by kernel_rfl, by kernel_rfl, rfl, by decide⟩
theorem rowJ_cell {w : World} {g n c : Nat} {L : List Int} (h : rowE elJ w (.slice (some ⟨g, 0, none⟩) n c) L) {i : Nat} {x : Int} (hx : L[i]? = some x) : w.cell? ⟨g, i, none⟩ = some (.int .i64 x) := by
  have := rowE_cell h hx (j := 0) (u := .int .i64 x) rfl
  simpa [elJ] using this
theorem flatJ (L : List Int) : flatE elJ L = L.map (Value.int .i64) := by
  unfold flatE elJ
  induction L with
  | nil => rfl
  | cons x L ih => simp [List.flatMap_cons, ih]
/-- the place of a number in a rising row -/
def ltN : List Int → Int → Nat
  | [], _ => 0
  | x :: r, n => if x < n then ltN r n + 1 else 0
theorem ltN_le : ∀ (o : List Int) (n : Int), ltN o n ≤ o.length
  | [], _ => Nat.le_refl _
  | x :: r, n => by
    have := ltN_le r n
    rw [ltN, List.length_cons]
    split <;> omega
theorem ltN_lt : ∀ {o : List Int} {n : Int} {j : Nat}, j < ltN o n → ∃ x, o[j]? = some x ∧ x < n
  | [], n, j, h => by simp [ltN] at h
  | x :: r, n, j, h => by
    rw [ltN] at h
    split at h
    · rename_i hx
      cases j with
      | zero => exact ⟨x, rfl, hx⟩
      | succ j => exact ltN_lt (o := r) (by omega)
    · omega
theorem ltN_at : ∀ {o : List Int} {n x : Int}, o[ltN o n]? = some x → ¬ x < n
  | [], n, x, h => by simp at h
  | y :: r, n, x, h => by
    rw [ltN] at h
    split at h
    · exact ltN_at (o := r) (by simpa using h)
    · rename_i hy
      simp at h
      rw [← h]; exact hy
def insZ (o : List Int) (n : Int) : List Int := if o[ltN o n]? = some n then o else o.take (ltN o n) ++ [n] ++ o.drop (ltN o n)
theorem mem_insZ {o : List Int} {n x : Int} : x ∈ insZ o n ↔ x = n ∨ x ∈ o := by
  unfold insZ
  split
  · rename_i h
    constructor
    · exact .inr
    · rintro (rfl | h1)
      · exact List.mem_of_getElem? h
      · exact h1
  · constructor
    · intro h1
      rcases List.mem_append.1 h1 with h1 | h1
      · rcases List.mem_append.1 h1 with h1 | h1
        · exact .inr (List.mem_of_mem_take h1)
        · exact .inl (List.mem_singleton.1 h1)
      · exact .inr (List.mem_of_mem_drop h1)
    · rintro (rfl | h1)
      · simp
      · rw [← List.take_append_drop (ltN o n) o] at h1
        rcases List.mem_append.1 h1 with h1 | h1
        · exact List.mem_append_left _ (List.mem_append_left _ h1)
        · exact List.mem_append_right _ h1
theorem insZ_len (o : List Int) (n : Int) : (insZ o n).length ≤ o.length + 1 := by
  unfold insZ
  split
  · omega
  · have := ltN_le o n
    rw [List.length_append, List.length_append, List.length_take, List.length_drop]
    simp only [List.length_cons, List.length_nil]
    omega
theorem insZ_up {o : List Int} {n : Int} (h : o.Pairwise (· < ·)) : (insZ o n).Pairwise (· < ·) := by
  unfold insZ
  split
  · exact h
  · rename_i hne
    have hT : ∀ x ∈ o.take (ltN o n), x < n := fun x hx => by
      obtain ⟨j, hj⟩ := List.mem_iff_getElem?.1 hx
      rw [List.getElem?_take] at hj
      split at hj
      · rename_i hlt
        obtain ⟨y, hy, hyn⟩ := ltN_lt hlt
        rw [hj] at hy
        cases hy
        exact hyn
      · cases hj
    have hD : ∀ x ∈ o.drop (ltN o n), n < x := fun x hx => by
      obtain ⟨j, hj⟩ := List.mem_iff_getElem?.1 hx
      rw [List.getElem?_drop] at hj
      have hl : ltN o n < o.length := by
        have := (List.getElem?_eq_some_iff.1 hj).1
        omega
      obtain ⟨y, hy⟩ : ∃ y, o[ltN o n]? = some y := ⟨_, List.getElem?_eq_getElem hl⟩
      have h1 := ltN_at hy
      have h2 : y ≠ n := fun e => hne (by rw [hy, e])
      rcases Nat.eq_zero_or_pos j with rfl | hj0
      · rw [Nat.add_zero, hy] at hj
        cases hj
        omega
      · have h3 := List.pairwise_iff_getElem.1 h (ltN o n) (ltN o n + j) hl (List.getElem?_eq_some_iff.1 hj).1 (by omega)
        rw [(List.getElem?_eq_some_iff.1 hj).2, (List.getElem?_eq_some_iff.1 hy).2] at h3
        omega
    have hp := h
    rw [← List.take_append_drop (ltN o n) o] at hp
    obtain ⟨p1, p2, p3⟩ := List.pairwise_append.1 hp
    refine List.pairwise_append.2 ⟨List.pairwise_append.2 ⟨p1, List.pairwise_singleton .., fun a ha b hb => ?_⟩, p2, fun a ha b hb => ?_⟩
    · rw [List.mem_singleton.1 hb]; exact hT a ha
    · rcases List.mem_append.1 ha with ha | ha
      · exact p3 a ha b hb
      · rw [List.mem_singleton.1 ha]; exact hD b hb
def nodesL (E : List Ed) : List Int := E.foldl (fun o e => insZ (insZ o e.1.a) e.1.c) []
theorem nodesL_take {E : List Ed} {j : Nat} {e : Ed} (h : E[j]? = some e) : nodesL (E.take (j + 1)) = insZ (insZ (nodesL (E.take j)) e.1.a) e.1.c := by
  unfold nodesL
  rw [List.take_add_one, h, Option.toList_some, List.foldl_append]
  rfl
theorem mem_foldN {x : Int} : ∀ (E : List Ed) (o : List Int), x ∈ E.foldl (fun o e => insZ (insZ o e.1.a) e.1.c) o ↔ x ∈ o ∨ ∃ e ∈ E, e.1.a = x ∨ e.1.c = x
  | [], o => by simp
  | e :: E, o => by
    rw [List.foldl_cons, mem_foldN E, mem_insZ, mem_insZ]
    constructor
    · rintro ((h | h | h) | ⟨y, h1, h2⟩)
      · exact .inr ⟨e, List.mem_cons_self .., .inr h.symm⟩
      · exact .inr ⟨e, List.mem_cons_self .., .inl h.symm⟩
      · exact .inl h
      · exact .inr ⟨y, List.mem_cons_of_mem _ h1, h2⟩
    · rintro (h | ⟨y, h1, h2⟩)
      · exact .inl (.inr (.inr h))
      · rcases List.mem_cons.1 h1 with rfl | h1
        · rcases h2 with h2 | h2
          · exact .inl (.inr (.inl h2.symm))
          · exact .inl (.inl h2.symm)
        · exact .inr ⟨y, h1, h2⟩
theorem mem_nodesL {E : List Ed} {x : Int} (hnd : KeysNd E) : x ∈ nodesL E ↔ isNode (grOf E) x := by
  unfold nodesL
  rw [mem_foldN]
  constructor
  · rintro (h | ⟨e, h1, h2⟩)
    · cases h
    · exact ⟨e.1, e.2, (grOf_some hnd).2 h1, h2⟩
  · rintro ⟨k, u, h1, h2⟩
    exact .inr ⟨(k, u), (grOf_some hnd).1 h1, h2⟩
theorem foldN_up : ∀ (E : List Ed) (o : List Int), o.Pairwise (· < ·) → (E.foldl (fun o e => insZ (insZ o e.1.a) e.1.c) o).Pairwise (· < ·) ∧ (E.foldl (fun o e => insZ (insZ o e.1.a) e.1.c) o).length ≤ o.length + 2 * E.length
  | [], o, h => ⟨h, by simp⟩
  | e :: E, o, h => by
    obtain ⟨h1, h2⟩ := foldN_up E _ (insZ_up (n := e.1.c) (insZ_up (n := e.1.a) h))
    refine ⟨h1, ?_⟩
    have h3 := insZ_len (insZ o e.1.a) e.1.c
    have h4 := insZ_len o e.1.a
    rw [List.foldl_cons, List.length_cons]
    omega
theorem nodesL_up (E : List Ed) : (nodesL E).Pairwise (· < ·) := (foldN_up E [] List.Pairwise.nil).1
theorem nodesL_len (E : List Ed) : (nodesL E).length ≤ 2 * E.length := by have := (foldN_up E [] List.Pairwise.nil).2; simpa [nodesL] using this
/-- the rest of a row -/
theorem srcZ_drop {w : World} {g n c : Nat} {L : List Int} (h : rowE elJ w (.slice (some ⟨g, 0, none⟩) n c) L) (q : Nat) (_hq : q ≤ L.length) (m c' : Nat) (hm : m = L.length - q) : SrcOf elJ w (.slice (some ⟨g, q, none⟩) m c') (L.drop q) := by
  refine ⟨_, c', by rw [hm, List.length_drop], fun _ => ⟨_, rfl, fun j u hu => ?_⟩⟩
  rw [flatJ, List.getElem?_map, List.getElem?_drop] at hu
  obtain ⟨x, hx, rfl⟩ := Option.map_eq_some_iff.1 hu
  rw [addr_add0]
  exact rowJ_cell h hx
theorem srcZ_take {w : World} {g n c : Nat} {L : List Int} (h : rowE elJ w (.slice (some ⟨g, 0, none⟩) n c) L) (q : Nat) (hq : q ≤ L.length) (c' : Nat) : SrcOf elJ w (.slice (some ⟨g, 0, none⟩) q c') (L.take q) := by
  refine ⟨_, c', by rw [List.length_take, Nat.min_eq_left hq], fun _ => ⟨_, rfl, fun j u hu => ?_⟩⟩
  rw [flatJ, List.getElem?_map] at hu
  obtain ⟨x, hx, rfl⟩ := Option.map_eq_some_iff.1 hu
  rw [addr_add0, Nat.zero_add]
  rw [List.getElem?_take] at hx
  split at hx
  · exact rowJ_cell h hx
  · cases hx
end Go.Proofs.Ytiabmdboacpmcaa
/- Nodes, walked. -/
namespace Go.Proofs.Ytiabmdboacpmcaa
open Go Go.RowKit Go.Sort Go.WideMaps Go.Maps
set_option maxHeartbeats 4000000

/-- how far the row is behind m of an edge's two ends -/
def stg (o : List Int) (k : Key) (m : Nat) : List Int := if m = 0 then o else if m = 1 then insZ o k.a else insZ (insZ o k.a) k.c
theorem stg_len (o : List Int) (k : Key) (m : Nat) (h : o.length ≤ 400) : (stg o k m).length ≤ 600 := by
  have h1 := insZ_len o k.a
  have h2 := insZ_len (insZ o k.a) k.c
  unfold stg
  split
  · omega
  · split <;> omega
theorem stg_1 (o : List Int) (k : Key) : stg o k 1 = insZ (stg o k 0) k.a := rfl
theorem stg_2 (o : List Int) (k : Key) : stg o k 2 = insZ (stg o k 1) k.c := rfl
set_option maxRecDepth 100000 in
theorem nodes_any (v : Value) (E : List Ed) (w : World) (h : rowE elDr w v E) (hl : E.length ≤ 100) : Calls Try.prog 39 #[v] w fun e w' => ∃ v', e = .returned v' ∧ rowF elJ w.heap.size (nodesL E) v' w' ∧ Ext w w' := by
  have HR := Lib.hid h
  obtain ⟨A0, c0, rfl⟩ := rowE_form h
  obtain ⟨n, hn⟩ : ∃ n, n = E.length := ⟨_, rfl⟩
  rw [← hn] at HR hl ⊢
  have HN := Lib.hid hn
  clear h hn
  go_enter Try.func39, Try.ntmps39
  go_wp2
  go_loopw [3, 11] (fun y x wn => ∃ j : Nat, j ≤ n ∧ x = .int .i64 (j : Int) ∧ ∃ vo, y = vo ∧ rowF elJ w.heap.size (nodesL (E.take j)) vo wn ∧ Ext w wn) (fun _ x _ => n - (intOf x).toNat)
  case atStart => exact ⟨0, by omega, rfl, _, rfl, rowF_nil _ _, ext_refl _⟩
  case round =>
    rename World => wi
    obtain ⟨j, hj, rfl, vo, rfl, hR, hE⟩ := hrel
    have HRV := Lib.hid hR
    have HE := Lib.hid hE
    clear hR hE
    by_cases hlt : j < n
    · have hji : (j : Int) < (n : Int) := by omega
      have hj0 : (0 : Int) ≤ (j : Int) := by omega
      obtain ⟨x, hx⟩ : ∃ x, E[j]? = some x := ⟨_, List.getElem?_eq_getElem (by rw [← HN.out]; exact hlt)⟩
      obtain ⟨g, rfl, lg⟩ := rowE_some HR.out (fun e => by rw [e] at hx; simp at hx)
      have HX := Lib.hid hx
      clear hx
      go_wp2
      go_loopw [3, 5] (fun y x' wn => ∃ m : Nat, m ≤ 2 ∧ x' = .int .i64 ((2 * m : Nat) : Int) ∧ ∃ vo, y = vo ∧ rowF elJ w.heap.size (stg (nodesL (E.take j)) x.1 m) vo wn ∧ Ext w wn) (fun _ x' _ => 4 - (intOf x').toNat)
      case atStart => exact ⟨0, by omega, rfl, _, rfl, HRV.out, HE.out⟩
      case round =>
        rename World => wr
        obtain ⟨m, hm, rfl, vo', rfl, hro, hE2⟩ := hrel
        have hrr := rowE_ext HR.out hE2
        have lgr := ext_lt hE2 lg
        have e0 : wr.cell? ⟨g, j * 4, none⟩ = some (.int .i64 x.1.a) := rowE_cell hrr HX.out (j := 0) (u := .int .i64 x.1.a) rfl
        have e2 : wr.cell? ⟨g, j * 4 + 2, none⟩ = some (.int .i64 x.1.c) := rowE_cell hrr HX.out (j := 2) (u := .int .i64 x.1.c) rfl
        clear hrr
        rcases (by omega : m = 0 ∨ m = 1 ∨ m = 2) with rfl | rfl | rfl
        · obtain ⟨o, ho⟩ : ∃ o, o = stg (nodesL (E.take j)) x.1 0 := ⟨_, rfl⟩
          rw [← ho] at hro
          have HO := Lib.hid ho
          obtain ⟨A1, c1, hvo⟩ := rowE_form hro.1
          subst hvo
          have hol : o.length ≤ 600 := by rw [ho]; exact stg_len _ _ _ (Nat.le_trans (nodesL_len _) (by rw [List.length_take]; omega))
          obtain ⟨no, hno⟩ : ∃ n, n = o.length := ⟨_, rfl⟩
          rw [← hno] at hro hol ⊢
          obtain ⟨z, hz⟩ : ∃ z, z = x.1.a := ⟨_, rfl⟩
          rw [← hz] at e0
          have HZ := Lib.hid hz
          have HNO := Lib.hid hno
          have HRO := Lib.hid hro
          have HE2 := Lib.hid hE2
          clear hro hE2 ho hno hz
          go_wp2
          go_loopw [7] (fun y wn => ∃ q : Nat, q ≤ ltN o z ∧ y = .int .i64 (q : Int) ∧ wn = wr) (fun y _ => no - (intOf y).toNat)
          case atStart => exact ⟨0, by omega, rfl, rfl⟩
          case round =>
            obtain ⟨q, hq, rfl, rfl⟩ := hrel
            have hqn : q ≤ no := by rw [HNO.out]; exact Nat.le_trans hq (ltN_le _ _)
            have HQ := Lib.hid hq
            clear hq
            by_cases hlt : q < ltN o z
            · obtain ⟨y, hy, hyz⟩ := ltN_lt hlt
              have hqo : q < no := by rw [HNO.out]; exact (List.getElem?_eq_some_iff.1 hy).1
              obtain ⟨g1, rfl, lg1⟩ := rowE_some HRO.out.1 (fun e => by rw [e] at hy; simp at hy)
              have y0 := rowJ_cell HRO.out.1 hy
              have hqi : (q : Int) < (no : Int) := by omega
              have HLT := Lib.hid hlt
              clear hlt hy
              go_wp2
              go_roundw
              case rel => exact ⟨q + 1, HLT.out, by go_num, by first | rfl | trivial⟩
              case measure => simp [intOf]; omega
            · have HLT := Lib.hid (show q = ltN o z by have := HQ.out; omega)
              clear hlt
              by_cases heq : q < no ∧ o[q]? = some z
              · obtain ⟨hqo, hoz⟩ := heq
                obtain ⟨g1, rfl, lg1⟩ := rowE_some HRO.out.1 (fun e => by rw [e] at hoz; simp at hoz)
                have y0 := rowJ_cell HRO.out.1 hoz
                have hqi : (q : Int) < (no : Int) := by omega
                have HIN := Lib.hid (show insZ o z = o from if_pos (by rw [← HLT.out]; exact hoz))
                clear hoz
                go_wp2
                go_roundw
                case rel => exact ⟨1, by omega, by go_num, _, rfl, by rw [stg_1, ← HO.out, ← HZ.out, HIN.out]; exact HRO.out, HE2.out⟩
                case measure => simp [intOf]
              · have HIN := Lib.hid (show insZ o z = o.take q ++ [z] ++ o.drop q by
                  unfold insZ
                  rw [← HLT.out, if_neg (fun e => heq ⟨by rw [HNO.out]; exact (List.getElem?_eq_some_iff.1 e).1, e⟩)])
                by_cases hqo : q < no
                · obtain ⟨y, hy⟩ : ∃ y, o[q]? = some y := ⟨_, List.getElem?_eq_getElem (by rw [← HNO.out]; exact hqo)⟩
                  obtain ⟨g1, rfl, lg1⟩ := rowE_some HRO.out.1 (fun e => by rw [e] at hy; simp at hy)
                  have y0 := rowJ_cell HRO.out.1 hy
                  have hyz : ¬ y < z := ltN_at (by rw [← HLT.out]; exact hy)
                  have hye : decide (y = z) = false := by simpa using fun e => heq ⟨hqo, by rw [hy, e]⟩
                  have hyn : ¬ y = z := by simpa using hye
                  have hqi : (q : Int) < (no : Int) := by omega
                  have hqc : no ≤ c1 := (rowE_cap HRO.out.1).2
                  clear heq hy
                  go_wp2_with (at_builtin; refine halt_here ?_)
                  refine go_on ?_
                  obtain ⟨W1, hW1⟩ : ∃ W1, W1 = wr.alloc (.cells #[] 3) := ⟨_, rfl⟩
                  have hE1 : Ext wr W1 := by rw [hW1]; exact ext_alloc (ext_refl _) _
                  have hno1 : noneF elJ w.heap.size (.slice (some ⟨wr.heap.size, 0, none⟩) 0 0) W1 := ⟨wr.heap.size, rfl, ext_size HE2.out, by rw [hW1]; exact heap_alloc_new _ _⟩
                  rw [← hW1]
                  refine wpList_append rfl (.tmp 51) (.tmp 54) rfl (.slice (some ⟨wr.heap.size, 0, none⟩) 0 0) (.slice (some ⟨g1, q, none⟩) (no - q) (c1 - q)) rfl rfl (fun v' w' => Ext W1 w' ∧ rowF elJ w.heap.size (o.drop q) v' w') (append_copy tpJ _ w.heap.size _ _ (o.drop q) W1 hno1 (srcZ_drop (rowE_ext HRO.out.1 hE1) q (by rw [← HNO.out]; exact hqn) _ _ (by rw [HNO.out])) (by have := HNO.out; rw [List.length_drop]; omega)) ?_
                  rintro v2 w2 ⟨hE2', hr2⟩
                  have HR2 := Lib.hid hr2
                  have HE2' := Lib.hid (ext_trans hE1 hE2')
                  clear hW1 hE1 hno1 hE2' hr2
                  go_simp
                  go_wp2_with (at_builtin; refine halt_here ?_)
                  refine go_on ?_
                  obtain ⟨W3, hW3⟩ : ∃ W3, W3 = w2.alloc (.cells #[.int .i64 z] 3) := ⟨_, rfl⟩
                  have hE3 : Ext w2 W3 := by rw [hW3]; exact ext_alloc (ext_refl _) _
                  have hon : oneF elJ w.heap.size z (.slice (some ⟨w2.heap.size, 0, none⟩) 1 1) W3 := ⟨w2.heap.size, rfl, Nat.le_trans (ext_size HE2.out) (ext_size HE2'.out), by rw [hW3]; exact heap_alloc_new _ _⟩
                  have HE3 := Lib.hid (ext_trans HE2'.out hE3)
                  have HR3 := Lib.hid (rowF_ext _ _ _ hE3 HR2.out)
                  rw [← hW3]
                  refine wpList_append rfl (.tmp 59) (.tmp 61) rfl (.slice (some ⟨g1, 0, none⟩) q q) (.slice (some ⟨w2.heap.size, 0, none⟩) 1 1) rfl rfl (fun v' w' => Ext W3 w' ∧ rowF elJ w.heap.size ((o.take q) ++ [z]) v' w') (append_full tpJ _ (some ⟨g1, 0, none⟩) (o.take q) [z] W3 w.heap.size _ _ (by rw [show (o.take q).length = q from by rw [List.length_take, Nat.min_eq_left (by rw [← HNO.out]; exact hqn)]]) (srcZ_take (rowE_ext HRO.out.1 HE3.out) q (by rw [← HNO.out]; exact hqn) _) (srcOf_one hon) (by simp) (by have := HNO.out; have := List.length_take_le q o; simp only [List.length_cons, List.length_nil]; omega) (Nat.le_trans (ext_size HE2.out) (ext_size HE3.out))) ?_
                  rintro v4 w4 ⟨hE4, hr4⟩
                  have HR4 := Lib.hid hr4
                  have HR24 := Lib.hid (rowF_ext _ _ _ hE4 HR3.out)
                  have HE4 := Lib.hid (ext_trans HE3.out hE4)
                  clear hW3 hE3 hon hE4 hr4
                  go_simp
                  go_wp2_with (at_builtin; refine halt_here ?_)
                  refine go_on ?_
                  refine wpList_append rfl (.tmp 62) (.tmp 63) rfl v4 v2 rfl rfl (fun v' w' => rowF elJ w.heap.size (((o.take q) ++ [z]) ++ (o.drop q)) v' w' ∧ w4.grownBy w' v4.ownBlock) (append_onto tpJ _ w.heap.size _ _ ((o.take q) ++ [z]) (o.drop q) w4 HR4.out (srcOf_row HR24.out.1) (by have := HNO.out; have := List.length_take_le q o; rw [List.length_append, List.length_drop]; simp only [List.length_cons, List.length_nil]; omega) (Nat.le_trans (ext_size HE2.out) (ext_size HE4.out))) ?_
                  rintro v5 w5 ⟨hr5, hg5⟩
                  have HR5 := Lib.hid hr5
                  have HE5 := Lib.hid (show Ext w w5 from ext_of_upd (upd_trans (upd_of_ext (ext_trans HE2.out HE4.out)) (upd_grown hg5) (fun i hi e => absurd hi (by have := HR4.out.2 _ e; omega))))
                  clear hr5 hg5
                  go_simp
                  go_wp2
                  go_roundw
                  case rel => exact ⟨1, by omega, by go_num, _, rfl, by rw [stg_1, ← HO.out, ← HZ.out, HIN.out]; exact HR5.out, HE5.out⟩
                  case measure => simp [intOf]
                · have hqe : q = no := by omega
                  rcases rowE_cases HRO.out.1 with ⟨hv0, ho0⟩ | ⟨g1, cap, cur, hv0, hg1, _⟩
                  · simp only [Value.slice.injEq] at hv0
                    obtain ⟨rfl, hno0, rfl⟩ := hv0
                    subst ho0
                    have hq0 : q = 0 := by omega
                    rw [hq0] at HIN HLT ⊢
                    rw [hno0] at HRO ⊢
                    have HIN := Lib.hid (show insZ [] z = ([] ++ [z]) ++ [] from by simpa using HIN.out)
                    clear heq
                    go_wp2_with (at_builtin; refine halt_here ?_)
                    refine go_on ?_
                    obtain ⟨W1, hW1⟩ : ∃ W1, W1 = wr.alloc (.cells #[] 3) := ⟨_, rfl⟩
                    have hE1 : Ext wr W1 := by rw [hW1]; exact ext_alloc (ext_refl _) _
                    have hno1 : noneF elJ w.heap.size (.slice (some ⟨wr.heap.size, 0, none⟩) 0 0) W1 := ⟨wr.heap.size, rfl, ext_size HE2.out, by rw [hW1]; exact heap_alloc_new _ _⟩
                    rw [← hW1]
                    refine wpList_append rfl (.tmp 51) (.tmp 54) rfl (.slice (some ⟨wr.heap.size, 0, none⟩) 0 0) (.slice none 0 0) rfl rfl (fun v' w' => Ext W1 w' ∧ rowF elJ w.heap.size [] v' w') (append_copy tpJ _ w.heap.size _ _ [] W1 hno1 (srcOf_nil _ _ _) (by simp)) ?_
                    rintro v2 w2 ⟨hE2', hr2⟩
                    have HR2 := Lib.hid hr2
                    have HE2' := Lib.hid (ext_trans hE1 hE2')
                    clear hW1 hE1 hno1 hE2' hr2
                    go_simp
                    go_wp2_with (at_builtin; refine halt_here ?_)
                    refine go_on ?_
                    obtain ⟨W3, hW3⟩ : ∃ W3, W3 = w2.alloc (.cells #[.int .i64 z] 3) := ⟨_, rfl⟩
                    have hE3 : Ext w2 W3 := by rw [hW3]; exact ext_alloc (ext_refl _) _
                    have hon : oneF elJ w.heap.size z (.slice (some ⟨w2.heap.size, 0, none⟩) 1 1) W3 := ⟨w2.heap.size, rfl, Nat.le_trans (ext_size HE2.out) (ext_size HE2'.out), by rw [hW3]; exact heap_alloc_new _ _⟩
                    have HE3 := Lib.hid (ext_trans HE2'.out hE3)
                    have HR3 := Lib.hid (rowF_ext _ _ _ hE3 HR2.out)
                    rw [← hW3]
                    refine wpList_append rfl (.tmp 59) (.tmp 61) rfl (.slice none 0 0) (.slice (some ⟨w2.heap.size, 0, none⟩) 1 1) rfl rfl (fun v' w' => Ext W3 w' ∧ rowF elJ w.heap.size ([] ++ [z]) v' w') (append_full tpJ _ none [] [z] W3 w.heap.size _ _ (by rw [show [].length = 0 from rfl]) (srcOf_nil _ _ _) (srcOf_one hon) (by simp) (by simp) (Nat.le_trans (ext_size HE2.out) (ext_size HE3.out))) ?_
                    rintro v4 w4 ⟨hE4, hr4⟩
                    have HR4 := Lib.hid hr4
                    have HR24 := Lib.hid (rowF_ext _ _ _ hE4 HR3.out)
                    have HE4 := Lib.hid (ext_trans HE3.out hE4)
                    clear hW3 hE3 hon hE4 hr4
                    go_simp
                    go_wp2_with (at_builtin; refine halt_here ?_)
                    refine go_on ?_
                    refine wpList_append rfl (.tmp 62) (.tmp 63) rfl v4 v2 rfl rfl (fun v' w' => rowF elJ w.heap.size (([] ++ [z]) ++ []) v' w' ∧ w4.grownBy w' v4.ownBlock) (append_onto tpJ _ w.heap.size _ _ ([] ++ [z]) [] w4 HR4.out (srcOf_row HR24.out.1) (by simp) (Nat.le_trans (ext_size HE2.out) (ext_size HE4.out))) ?_
                    rintro v5 w5 ⟨hr5, hg5⟩
                    have HR5 := Lib.hid hr5
                    have HE5 := Lib.hid (show Ext w w5 from ext_of_upd (upd_trans (upd_of_ext (ext_trans HE2.out HE4.out)) (upd_grown hg5) (fun i hi e => absurd hi (by have := HR4.out.2 _ e; omega))))
                    clear hr5 hg5
                    go_simp
                    go_wp2
                    go_roundw
                    case rel => exact ⟨1, by omega, by go_num, _, rfl, by rw [stg_1, ← HO.out, ← HZ.out, HIN.out]; exact HR5.out, HE5.out⟩
                    case measure => simp [intOf]
                  · simp only [Value.slice.injEq] at hv0
                    obtain ⟨rfl, hno0, rfl⟩ := hv0
                    have hqc : no ≤ c1 := (rowE_cap HRO.out.1).2
                    have hnq : ¬ (q : Int) < (no : Int) := by omega
                    have HIN := Lib.hid (show insZ o z = (o.take q ++ [z]) ++ [] by rw [HIN.out, List.drop_of_length_le (by rw [← HNO.out]; omega)])
                    clear heq hg1 hno0
                    subst hqe
                    by_cases hcc : q = c1
                    · subst hcc
                      go_wp2_with (at_builtin; refine halt_here ?_)
                      refine go_on ?_
                      obtain ⟨W1, hW1⟩ : ∃ W1, W1 = wr.alloc (.cells #[] 3) := ⟨_, rfl⟩
                      have hE1 : Ext wr W1 := by rw [hW1]; exact ext_alloc (ext_refl _) _
                      have hno1 : noneF elJ w.heap.size (.slice (some ⟨wr.heap.size, 0, none⟩) 0 0) W1 := ⟨wr.heap.size, rfl, ext_size HE2.out, by rw [hW1]; exact heap_alloc_new _ _⟩
                      rw [← hW1]
                      refine wpList_append rfl (.tmp 51) (.tmp 54) rfl (.slice (some ⟨wr.heap.size, 0, none⟩) 0 0) _ rfl rfl (fun v' w' => Ext W1 w' ∧ rowF elJ w.heap.size [] v' w') (append_copy tpJ _ w.heap.size _ _ [] W1 hno1 (srcOf_nil _ _ _) (by simp)) ?_
                      rintro v2 w2 ⟨hE2', hr2⟩
                      have HR2 := Lib.hid hr2
                      have HE2' := Lib.hid (ext_trans hE1 hE2')
                      clear hW1 hE1 hno1 hE2' hr2
                      go_simp
                      go_wp2_with (at_builtin; refine halt_here ?_)
                      refine go_on ?_
                      obtain ⟨W3, hW3⟩ : ∃ W3, W3 = w2.alloc (.cells #[.int .i64 z] 3) := ⟨_, rfl⟩
                      have hE3 : Ext w2 W3 := by rw [hW3]; exact ext_alloc (ext_refl _) _
                      have hon : oneF elJ w.heap.size z (.slice (some ⟨w2.heap.size, 0, none⟩) 1 1) W3 := ⟨w2.heap.size, rfl, Nat.le_trans (ext_size HE2.out) (ext_size HE2'.out), by rw [hW3]; exact heap_alloc_new _ _⟩
                      have HE3 := Lib.hid (ext_trans HE2'.out hE3)
                      have HR3 := Lib.hid (rowF_ext _ _ _ hE3 HR2.out)
                      rw [← hW3]
                      refine wpList_append rfl (.tmp 59) (.tmp 61) rfl (.slice (some ⟨g1, 0, none⟩) q q) (.slice (some ⟨w2.heap.size, 0, none⟩) 1 1) rfl rfl (fun v' w' => Ext W3 w' ∧ rowF elJ w.heap.size ((o.take q) ++ [z]) v' w') (append_full tpJ _ (some ⟨g1, 0, none⟩) (o.take q) [z] W3 w.heap.size _ _ (by rw [show (o.take q).length = q from by rw [List.length_take, Nat.min_eq_left (by rw [← HNO.out]; exact hqn)]]) (srcZ_take (rowE_ext HRO.out.1 HE3.out) q (by rw [← HNO.out]; exact hqn) _) (srcOf_one hon) (by simp) (by have := HNO.out; have := List.length_take_le q o; simp only [List.length_cons, List.length_nil]; omega) (Nat.le_trans (ext_size HE2.out) (ext_size HE3.out))) ?_
                      rintro v4 w4 ⟨hE4, hr4⟩
                      have HR4 := Lib.hid hr4
                      have HR24 := Lib.hid (rowF_ext _ _ _ hE4 HR3.out)
                      have HE4 := Lib.hid (ext_trans HE3.out hE4)
                      clear hW3 hE3 hon hE4 hr4
                      go_simp
                      go_wp2_with (at_builtin; refine halt_here ?_)
                      refine go_on ?_
                      refine wpList_append rfl (.tmp 62) (.tmp 63) rfl v4 v2 rfl rfl (fun v' w' => rowF elJ w.heap.size (((o.take q) ++ [z]) ++ []) v' w' ∧ w4.grownBy w' v4.ownBlock) (append_onto tpJ _ w.heap.size _ _ ((o.take q) ++ [z]) [] w4 HR4.out (srcOf_row HR24.out.1) (by have := HNO.out; have := List.length_take_le q o; rw [List.length_append]; simp only [List.length_cons, List.length_nil]; omega) (Nat.le_trans (ext_size HE2.out) (ext_size HE4.out))) ?_
                      rintro v5 w5 ⟨hr5, hg5⟩
                      have HR5 := Lib.hid hr5
                      have HE5 := Lib.hid (show Ext w w5 from ext_of_upd (upd_trans (upd_of_ext (ext_trans HE2.out HE4.out)) (upd_grown hg5) (fun i hi e => absurd hi (by have := HR4.out.2 _ e; omega))))
                      clear hr5 hg5
                      go_simp
                      go_wp2
                      go_roundw
                      case rel => exact ⟨1, by omega, by go_num, _, rfl, by rw [stg_1, ← HO.out, ← HZ.out, HIN.out]; exact HR5.out, HE5.out⟩
                      case measure => simp [intOf]
                    · have hcl : q < c1 := by omega
                      go_wp2_with (at_builtin; refine halt_here ?_)
                      refine go_on ?_
                      obtain ⟨W1, hW1⟩ : ∃ W1, W1 = wr.alloc (.cells #[] 3) := ⟨_, rfl⟩
                      have hE1 : Ext wr W1 := by rw [hW1]; exact ext_alloc (ext_refl _) _
                      have hno1 : noneF elJ w.heap.size (.slice (some ⟨wr.heap.size, 0, none⟩) 0 0) W1 := ⟨wr.heap.size, rfl, ext_size HE2.out, by rw [hW1]; exact heap_alloc_new _ _⟩
                      rw [← hW1]
                      refine wpList_append rfl (.tmp 51) (.tmp 54) rfl (.slice (some ⟨wr.heap.size, 0, none⟩) 0 0) _ rfl rfl (fun v' w' => Ext W1 w' ∧ rowF elJ w.heap.size [] v' w') (append_copy tpJ _ w.heap.size _ _ [] W1 hno1 (srcOf_nil _ _ _) (by simp)) ?_
                      rintro v2 w2 ⟨hE2', hr2⟩
                      have HR2 := Lib.hid hr2
                      have HE2' := Lib.hid (ext_trans hE1 hE2')
                      clear hW1 hE1 hno1 hE2' hr2
                      go_simp
                      go_wp2_with (at_builtin; refine halt_here ?_)
                      refine go_on ?_
                      obtain ⟨W3, hW3⟩ : ∃ W3, W3 = w2.alloc (.cells #[.int .i64 z] 3) := ⟨_, rfl⟩
                      have hE3 : Ext w2 W3 := by rw [hW3]; exact ext_alloc (ext_refl _) _
                      have hon : oneF elJ w.heap.size z (.slice (some ⟨w2.heap.size, 0, none⟩) 1 1) W3 := ⟨w2.heap.size, rfl, Nat.le_trans (ext_size HE2.out) (ext_size HE2'.out), by rw [hW3]; exact heap_alloc_new _ _⟩
                      have HE3 := Lib.hid (ext_trans HE2'.out hE3)
                      have HR3 := Lib.hid (rowF_ext _ _ _ hE3 HR2.out)
                      rw [← hW3]
                      refine wpList_append rfl (.tmp 59) (.tmp 61) rfl (.slice (some ⟨g1, 0, none⟩) q q) (.slice (some ⟨w2.heap.size, 0, none⟩) 1 1) rfl rfl (fun v' w' => Ext W3 w' ∧ rowF elJ w.heap.size ((o.take q) ++ [z]) v' w') (append_full tpJ _ (some ⟨g1, 0, none⟩) (o.take q) [z] W3 w.heap.size _ _ (by rw [show (o.take q).length = q from by rw [List.length_take, Nat.min_eq_left (by rw [← HNO.out]; exact hqn)]]) (srcZ_take (rowE_ext HRO.out.1 HE3.out) q (by rw [← HNO.out]; exact hqn) _) (srcOf_one hon) (by simp) (by have := HNO.out; have := List.length_take_le q o; simp only [List.length_cons, List.length_nil]; omega) (Nat.le_trans (ext_size HE2.out) (ext_size HE3.out))) ?_
                      rintro v4 w4 ⟨hE4, hr4⟩
                      have HR4 := Lib.hid hr4
                      have HR24 := Lib.hid (rowF_ext _ _ _ hE4 HR3.out)
                      have HE4 := Lib.hid (ext_trans HE3.out hE4)
                      clear hW3 hE3 hon hE4 hr4
                      go_simp
                      go_wp2_with (at_builtin; refine halt_here ?_)
                      refine go_on ?_
                      refine wpList_append rfl (.tmp 62) (.tmp 63) rfl v4 v2 rfl rfl (fun v' w' => rowF elJ w.heap.size (((o.take q) ++ [z]) ++ []) v' w' ∧ w4.grownBy w' v4.ownBlock) (append_onto tpJ _ w.heap.size _ _ ((o.take q) ++ [z]) [] w4 HR4.out (srcOf_row HR24.out.1) (by have := HNO.out; have := List.length_take_le q o; rw [List.length_append]; simp only [List.length_cons, List.length_nil]; omega) (Nat.le_trans (ext_size HE2.out) (ext_size HE4.out))) ?_
                      rintro v5 w5 ⟨hr5, hg5⟩
                      have HR5 := Lib.hid hr5
                      have HE5 := Lib.hid (show Ext w w5 from ext_of_upd (upd_trans (upd_of_ext (ext_trans HE2.out HE4.out)) (upd_grown hg5) (fun i hi e => absurd hi (by have := HR4.out.2 _ e; omega))))
                      clear hr5 hg5
                      go_simp
                      go_wp2
                      go_roundw
                      case rel => exact ⟨1, by omega, by go_num, _, rfl, by rw [stg_1, ← HO.out, ← HZ.out, HIN.out]; exact HR5.out, HE5.out⟩
                      case measure => simp [intOf]
        · obtain ⟨o, ho⟩ : ∃ o, o = stg (nodesL (E.take j)) x.1 1 := ⟨_, rfl⟩
          rw [← ho] at hro
          have HO := Lib.hid ho
          obtain ⟨A1, c1, hvo⟩ := rowE_form hro.1
          subst hvo
          have hol : o.length ≤ 600 := by rw [ho]; exact stg_len _ _ _ (Nat.le_trans (nodesL_len _) (by rw [List.length_take]; omega))
          obtain ⟨no, hno⟩ : ∃ n, n = o.length := ⟨_, rfl⟩
          rw [← hno] at hro hol ⊢
          obtain ⟨z, hz⟩ : ∃ z, z = x.1.c := ⟨_, rfl⟩
          rw [← hz] at e2
          have HZ := Lib.hid hz
          have HNO := Lib.hid hno
          have HRO := Lib.hid hro
          have HE2 := Lib.hid hE2
          clear hro hE2 ho hno hz
          go_wp2
          go_loopw [7] (fun y wn => ∃ q : Nat, q ≤ ltN o z ∧ y = .int .i64 (q : Int) ∧ wn = wr) (fun y _ => no - (intOf y).toNat)
          case atStart => exact ⟨0, by omega, rfl, rfl⟩
          case round =>
            obtain ⟨q, hq, rfl, rfl⟩ := hrel
            have hqn : q ≤ no := by rw [HNO.out]; exact Nat.le_trans hq (ltN_le _ _)
            have HQ := Lib.hid hq
            clear hq
            by_cases hlt : q < ltN o z
            · obtain ⟨y, hy, hyz⟩ := ltN_lt hlt
              have hqo : q < no := by rw [HNO.out]; exact (List.getElem?_eq_some_iff.1 hy).1
              obtain ⟨g1, rfl, lg1⟩ := rowE_some HRO.out.1 (fun e => by rw [e] at hy; simp at hy)
              have y0 := rowJ_cell HRO.out.1 hy
              have hqi : (q : Int) < (no : Int) := by omega
              have HLT := Lib.hid hlt
              clear hlt hy
              go_wp2
              go_roundw
              case rel => exact ⟨q + 1, HLT.out, by go_num, by first | rfl | trivial⟩
              case measure => simp [intOf]; omega
            · have HLT := Lib.hid (show q = ltN o z by have := HQ.out; omega)
              clear hlt
              by_cases heq : q < no ∧ o[q]? = some z
              · obtain ⟨hqo, hoz⟩ := heq
                obtain ⟨g1, rfl, lg1⟩ := rowE_some HRO.out.1 (fun e => by rw [e] at hoz; simp at hoz)
                have y0 := rowJ_cell HRO.out.1 hoz
                have hqi : (q : Int) < (no : Int) := by omega
                have HIN := Lib.hid (show insZ o z = o from if_pos (by rw [← HLT.out]; exact hoz))
                clear hoz
                go_wp2
                go_roundw
                case rel => exact ⟨2, by omega, by go_num, _, rfl, by rw [stg_2, ← HO.out, ← HZ.out, HIN.out]; exact HRO.out, HE2.out⟩
                case measure => simp [intOf]
              · have HIN := Lib.hid (show insZ o z = o.take q ++ [z] ++ o.drop q by
                  unfold insZ
                  rw [← HLT.out, if_neg (fun e => heq ⟨by rw [HNO.out]; exact (List.getElem?_eq_some_iff.1 e).1, e⟩)])
                by_cases hqo : q < no
                · obtain ⟨y, hy⟩ : ∃ y, o[q]? = some y := ⟨_, List.getElem?_eq_getElem (by rw [← HNO.out]; exact hqo)⟩
                  obtain ⟨g1, rfl, lg1⟩ := rowE_some HRO.out.1 (fun e => by rw [e] at hy; simp at hy)
                  have y0 := rowJ_cell HRO.out.1 hy
                  have hyz : ¬ y < z := ltN_at (by rw [← HLT.out]; exact hy)
                  have hye : decide (y = z) = false := by simpa using fun e => heq ⟨hqo, by rw [hy, e]⟩
                  have hyn : ¬ y = z := by simpa using hye
                  have hqi : (q : Int) < (no : Int) := by omega
                  have hqc : no ≤ c1 := (rowE_cap HRO.out.1).2
                  clear heq hy
                  go_wp2_with (at_builtin; refine halt_here ?_)
                  refine go_on ?_
                  obtain ⟨W1, hW1⟩ : ∃ W1, W1 = wr.alloc (.cells #[] 3) := ⟨_, rfl⟩
                  have hE1 : Ext wr W1 := by rw [hW1]; exact ext_alloc (ext_refl _) _
                  have hno1 : noneF elJ w.heap.size (.slice (some ⟨wr.heap.size, 0, none⟩) 0 0) W1 := ⟨wr.heap.size, rfl, ext_size HE2.out, by rw [hW1]; exact heap_alloc_new _ _⟩
                  rw [← hW1]
                  refine wpList_append rfl (.tmp 51) (.tmp 54) rfl (.slice (some ⟨wr.heap.size, 0, none⟩) 0 0) (.slice (some ⟨g1, q, none⟩) (no - q) (c1 - q)) rfl rfl (fun v' w' => Ext W1 w' ∧ rowF elJ w.heap.size (o.drop q) v' w') (append_copy tpJ _ w.heap.size _ _ (o.drop q) W1 hno1 (srcZ_drop (rowE_ext HRO.out.1 hE1) q (by rw [← HNO.out]; exact hqn) _ _ (by rw [HNO.out])) (by have := HNO.out; rw [List.length_drop]; omega)) ?_
                  rintro v2 w2 ⟨hE2', hr2⟩
                  have HR2 := Lib.hid hr2
                  have HE2' := Lib.hid (ext_trans hE1 hE2')
                  clear hW1 hE1 hno1 hE2' hr2
                  go_simp
                  go_wp2_with (at_builtin; refine halt_here ?_)
                  refine go_on ?_
                  obtain ⟨W3, hW3⟩ : ∃ W3, W3 = w2.alloc (.cells #[.int .i64 z] 3) := ⟨_, rfl⟩
                  have hE3 : Ext w2 W3 := by rw [hW3]; exact ext_alloc (ext_refl _) _
                  have hon : oneF elJ w.heap.size z (.slice (some ⟨w2.heap.size, 0, none⟩) 1 1) W3 := ⟨w2.heap.size, rfl, Nat.le_trans (ext_size HE2.out) (ext_size HE2'.out), by rw [hW3]; exact heap_alloc_new _ _⟩
                  have HE3 := Lib.hid (ext_trans HE2'.out hE3)
                  have HR3 := Lib.hid (rowF_ext _ _ _ hE3 HR2.out)
                  rw [← hW3]
                  refine wpList_append rfl (.tmp 59) (.tmp 61) rfl (.slice (some ⟨g1, 0, none⟩) q q) (.slice (some ⟨w2.heap.size, 0, none⟩) 1 1) rfl rfl (fun v' w' => Ext W3 w' ∧ rowF elJ w.heap.size ((o.take q) ++ [z]) v' w') (append_full tpJ _ (some ⟨g1, 0, none⟩) (o.take q) [z] W3 w.heap.size _ _ (by rw [show (o.take q).length = q from by rw [List.length_take, Nat.min_eq_left (by rw [← HNO.out]; exact hqn)]]) (srcZ_take (rowE_ext HRO.out.1 HE3.out) q (by rw [← HNO.out]; exact hqn) _) (srcOf_one hon) (by simp) (by have := HNO.out; have := List.length_take_le q o; simp only [List.length_cons, List.length_nil]; omega) (Nat.le_trans (ext_size HE2.out) (ext_size HE3.out))) ?_
                  rintro v4 w4 ⟨hE4, hr4⟩
                  have HR4 := Lib.hid hr4
                  have HR24 := Lib.hid (rowF_ext _ _ _ hE4 HR3.out)
                  have HE4 := Lib.hid (ext_trans HE3.out hE4)
                  clear hW3 hE3 hon hE4 hr4
                  go_simp
                  go_wp2_with (at_builtin; refine halt_here ?_)
                  refine go_on ?_
                  refine wpList_append rfl (.tmp 62) (.tmp 63) rfl v4 v2 rfl rfl (fun v' w' => rowF elJ w.heap.size (((o.take q) ++ [z]) ++ (o.drop q)) v' w' ∧ w4.grownBy w' v4.ownBlock) (append_onto tpJ _ w.heap.size _ _ ((o.take q) ++ [z]) (o.drop q) w4 HR4.out (srcOf_row HR24.out.1) (by have := HNO.out; have := List.length_take_le q o; rw [List.length_append, List.length_drop]; simp only [List.length_cons, List.length_nil]; omega) (Nat.le_trans (ext_size HE2.out) (ext_size HE4.out))) ?_
                  rintro v5 w5 ⟨hr5, hg5⟩
                  have HR5 := Lib.hid hr5
                  have HE5 := Lib.hid (show Ext w w5 from ext_of_upd (upd_trans (upd_of_ext (ext_trans HE2.out HE4.out)) (upd_grown hg5) (fun i hi e => absurd hi (by have := HR4.out.2 _ e; omega))))
                  clear hr5 hg5
                  go_simp
                  go_wp2
                  go_roundw
                  case rel => exact ⟨2, by omega, by go_num, _, rfl, by rw [stg_2, ← HO.out, ← HZ.out, HIN.out]; exact HR5.out, HE5.out⟩
                  case measure => simp [intOf]
                · have hqe : q = no := by omega
                  rcases rowE_cases HRO.out.1 with ⟨hv0, ho0⟩ | ⟨g1, cap, cur, hv0, hg1, _⟩
                  · simp only [Value.slice.injEq] at hv0
                    obtain ⟨rfl, hno0, rfl⟩ := hv0
                    subst ho0
                    have hq0 : q = 0 := by omega
                    rw [hq0] at HIN HLT ⊢
                    rw [hno0] at HRO ⊢
                    have HIN := Lib.hid (show insZ [] z = ([] ++ [z]) ++ [] from by simpa using HIN.out)
                    clear heq
                    go_wp2_with (at_builtin; refine halt_here ?_)
                    refine go_on ?_
                    obtain ⟨W1, hW1⟩ : ∃ W1, W1 = wr.alloc (.cells #[] 3) := ⟨_, rfl⟩
                    have hE1 : Ext wr W1 := by rw [hW1]; exact ext_alloc (ext_refl _) _
                    have hno1 : noneF elJ w.heap.size (.slice (some ⟨wr.heap.size, 0, none⟩) 0 0) W1 := ⟨wr.heap.size, rfl, ext_size HE2.out, by rw [hW1]; exact heap_alloc_new _ _⟩
                    rw [← hW1]
                    refine wpList_append rfl (.tmp 51) (.tmp 54) rfl (.slice (some ⟨wr.heap.size, 0, none⟩) 0 0) (.slice none 0 0) rfl rfl (fun v' w' => Ext W1 w' ∧ rowF elJ w.heap.size [] v' w') (append_copy tpJ _ w.heap.size _ _ [] W1 hno1 (srcOf_nil _ _ _) (by simp)) ?_
                    rintro v2 w2 ⟨hE2', hr2⟩
                    have HR2 := Lib.hid hr2
                    have HE2' := Lib.hid (ext_trans hE1 hE2')
                    clear hW1 hE1 hno1 hE2' hr2
                    go_simp
                    go_wp2_with (at_builtin; refine halt_here ?_)
                    refine go_on ?_
                    obtain ⟨W3, hW3⟩ : ∃ W3, W3 = w2.alloc (.cells #[.int .i64 z] 3) := ⟨_, rfl⟩
                    have hE3 : Ext w2 W3 := by rw [hW3]; exact ext_alloc (ext_refl _) _
                    have hon : oneF elJ w.heap.size z (.slice (some ⟨w2.heap.size, 0, none⟩) 1 1) W3 := ⟨w2.heap.size, rfl, Nat.le_trans (ext_size HE2.out) (ext_size HE2'.out), by rw [hW3]; exact heap_alloc_new _ _⟩
                    have HE3 := Lib.hid (ext_trans HE2'.out hE3)
                    have HR3 := Lib.hid (rowF_ext _ _ _ hE3 HR2.out)
                    rw [← hW3]
                    refine wpList_append rfl (.tmp 59) (.tmp 61) rfl (.slice none 0 0) (.slice (some ⟨w2.heap.size, 0, none⟩) 1 1) rfl rfl (fun v' w' => Ext W3 w' ∧ rowF elJ w.heap.size ([] ++ [z]) v' w') (append_full tpJ _ none [] [z] W3 w.heap.size _ _ (by rw [show [].length = 0 from rfl]) (srcOf_nil _ _ _) (srcOf_one hon) (by simp) (by simp) (Nat.le_trans (ext_size HE2.out) (ext_size HE3.out))) ?_
                    rintro v4 w4 ⟨hE4, hr4⟩
                    have HR4 := Lib.hid hr4
                    have HR24 := Lib.hid (rowF_ext _ _ _ hE4 HR3.out)
                    have HE4 := Lib.hid (ext_trans HE3.out hE4)
                    clear hW3 hE3 hon hE4 hr4
                    go_simp
                    go_wp2_with (at_builtin; refine halt_here ?_)
                    refine go_on ?_
                    refine wpList_append rfl (.tmp 62) (.tmp 63) rfl v4 v2 rfl rfl (fun v' w' => rowF elJ w.heap.size (([] ++ [z]) ++ []) v' w' ∧ w4.grownBy w' v4.ownBlock) (append_onto tpJ _ w.heap.size _ _ ([] ++ [z]) [] w4 HR4.out (srcOf_row HR24.out.1) (by simp) (Nat.le_trans (ext_size HE2.out) (ext_size HE4.out))) ?_
                    rintro v5 w5 ⟨hr5, hg5⟩
                    have HR5 := Lib.hid hr5
                    have HE5 := Lib.hid (show Ext w w5 from ext_of_upd (upd_trans (upd_of_ext (ext_trans HE2.out HE4.out)) (upd_grown hg5) (fun i hi e => absurd hi (by have := HR4.out.2 _ e; omega))))
                    clear hr5 hg5
                    go_simp
                    go_wp2
                    go_roundw
                    case rel => exact ⟨2, by omega, by go_num, _, rfl, by rw [stg_2, ← HO.out, ← HZ.out, HIN.out]; exact HR5.out, HE5.out⟩
                    case measure => simp [intOf]
                  · simp only [Value.slice.injEq] at hv0
                    obtain ⟨rfl, hno0, rfl⟩ := hv0
                    have hqc : no ≤ c1 := (rowE_cap HRO.out.1).2
                    have hnq : ¬ (q : Int) < (no : Int) := by omega
                    have HIN := Lib.hid (show insZ o z = (o.take q ++ [z]) ++ [] by rw [HIN.out, List.drop_of_length_le (by rw [← HNO.out]; omega)])
                    clear heq hg1 hno0
                    subst hqe
                    by_cases hcc : q = c1
                    · subst hcc
                      go_wp2_with (at_builtin; refine halt_here ?_)
                      refine go_on ?_
                      obtain ⟨W1, hW1⟩ : ∃ W1, W1 = wr.alloc (.cells #[] 3) := ⟨_, rfl⟩
                      have hE1 : Ext wr W1 := by rw [hW1]; exact ext_alloc (ext_refl _) _
                      have hno1 : noneF elJ w.heap.size (.slice (some ⟨wr.heap.size, 0, none⟩) 0 0) W1 := ⟨wr.heap.size, rfl, ext_size HE2.out, by rw [hW1]; exact heap_alloc_new _ _⟩
                      rw [← hW1]
                      refine wpList_append rfl (.tmp 51) (.tmp 54) rfl (.slice (some ⟨wr.heap.size, 0, none⟩) 0 0) _ rfl rfl (fun v' w' => Ext W1 w' ∧ rowF elJ w.heap.size [] v' w') (append_copy tpJ _ w.heap.size _ _ [] W1 hno1 (srcOf_nil _ _ _) (by simp)) ?_
                      rintro v2 w2 ⟨hE2', hr2⟩
                      have HR2 := Lib.hid hr2
                      have HE2' := Lib.hid (ext_trans hE1 hE2')
                      clear hW1 hE1 hno1 hE2' hr2
                      go_simp
                      go_wp2_with (at_builtin; refine halt_here ?_)
                      refine go_on ?_
                      obtain ⟨W3, hW3⟩ : ∃ W3, W3 = w2.alloc (.cells #[.int .i64 z] 3) := ⟨_, rfl⟩
                      have hE3 : Ext w2 W3 := by rw [hW3]; exact ext_alloc (ext_refl _) _
                      have hon : oneF elJ w.heap.size z (.slice (some ⟨w2.heap.size, 0, none⟩) 1 1) W3 := ⟨w2.heap.size, rfl, Nat.le_trans (ext_size HE2.out) (ext_size HE2'.out), by rw [hW3]; exact heap_alloc_new _ _⟩
                      have HE3 := Lib.hid (ext_trans HE2'.out hE3)
                      have HR3 := Lib.hid (rowF_ext _ _ _ hE3 HR2.out)
                      rw [← hW3]
                      refine wpList_append rfl (.tmp 59) (.tmp 61) rfl (.slice (some ⟨g1, 0, none⟩) q q) (.slice (some ⟨w2.heap.size, 0, none⟩) 1 1) rfl rfl (fun v' w' => Ext W3 w' ∧ rowF elJ w.heap.size ((o.take q) ++ [z]) v' w') (append_full tpJ _ (some ⟨g1, 0, none⟩) (o.take q) [z] W3 w.heap.size _ _ (by rw [show (o.take q).length = q from by rw [List.length_take, Nat.min_eq_left (by rw [← HNO.out]; exact hqn)]]) (srcZ_take (rowE_ext HRO.out.1 HE3.out) q (by rw [← HNO.out]; exact hqn) _) (srcOf_one hon) (by simp) (by have := HNO.out; have := List.length_take_le q o; simp only [List.length_cons, List.length_nil]; omega) (Nat.le_trans (ext_size HE2.out) (ext_size HE3.out))) ?_
                      rintro v4 w4 ⟨hE4, hr4⟩
                      have HR4 := Lib.hid hr4
                      have HR24 := Lib.hid (rowF_ext _ _ _ hE4 HR3.out)
                      have HE4 := Lib.hid (ext_trans HE3.out hE4)
                      clear hW3 hE3 hon hE4 hr4
                      go_simp
                      go_wp2_with (at_builtin; refine halt_here ?_)
                      refine go_on ?_
                      refine wpList_append rfl (.tmp 62) (.tmp 63) rfl v4 v2 rfl rfl (fun v' w' => rowF elJ w.heap.size (((o.take q) ++ [z]) ++ []) v' w' ∧ w4.grownBy w' v4.ownBlock) (append_onto tpJ _ w.heap.size _ _ ((o.take q) ++ [z]) [] w4 HR4.out (srcOf_row HR24.out.1) (by have := HNO.out; have := List.length_take_le q o; rw [List.length_append]; simp only [List.length_cons, List.length_nil]; omega) (Nat.le_trans (ext_size HE2.out) (ext_size HE4.out))) ?_
                      rintro v5 w5 ⟨hr5, hg5⟩
                      have HR5 := Lib.hid hr5
                      have HE5 := Lib.hid (show Ext w w5 from ext_of_upd (upd_trans (upd_of_ext (ext_trans HE2.out HE4.out)) (upd_grown hg5) (fun i hi e => absurd hi (by have := HR4.out.2 _ e; omega))))
                      clear hr5 hg5
                      go_simp
                      go_wp2
                      go_roundw
                      case rel => exact ⟨2, by omega, by go_num, _, rfl, by rw [stg_2, ← HO.out, ← HZ.out, HIN.out]; exact HR5.out, HE5.out⟩
                      case measure => simp [intOf]
                    · have hcl : q < c1 := by omega
                      go_wp2_with (at_builtin; refine halt_here ?_)
                      refine go_on ?_
                      obtain ⟨W1, hW1⟩ : ∃ W1, W1 = wr.alloc (.cells #[] 3) := ⟨_, rfl⟩
                      have hE1 : Ext wr W1 := by rw [hW1]; exact ext_alloc (ext_refl _) _
                      have hno1 : noneF elJ w.heap.size (.slice (some ⟨wr.heap.size, 0, none⟩) 0 0) W1 := ⟨wr.heap.size, rfl, ext_size HE2.out, by rw [hW1]; exact heap_alloc_new _ _⟩
                      rw [← hW1]
                      refine wpList_append rfl (.tmp 51) (.tmp 54) rfl (.slice (some ⟨wr.heap.size, 0, none⟩) 0 0) _ rfl rfl (fun v' w' => Ext W1 w' ∧ rowF elJ w.heap.size [] v' w') (append_copy tpJ _ w.heap.size _ _ [] W1 hno1 (srcOf_nil _ _ _) (by simp)) ?_
                      rintro v2 w2 ⟨hE2', hr2⟩
                      have HR2 := Lib.hid hr2
                      have HE2' := Lib.hid (ext_trans hE1 hE2')
                      clear hW1 hE1 hno1 hE2' hr2
                      go_simp
                      go_wp2_with (at_builtin; refine halt_here ?_)
                      refine go_on ?_
                      obtain ⟨W3, hW3⟩ : ∃ W3, W3 = w2.alloc (.cells #[.int .i64 z] 3) := ⟨_, rfl⟩
                      have hE3 : Ext w2 W3 := by rw [hW3]; exact ext_alloc (ext_refl _) _
                      have hon : oneF elJ w.heap.size z (.slice (some ⟨w2.heap.size, 0, none⟩) 1 1) W3 := ⟨w2.heap.size, rfl, Nat.le_trans (ext_size HE2.out) (ext_size HE2'.out), by rw [hW3]; exact heap_alloc_new _ _⟩
                      have HE3 := Lib.hid (ext_trans HE2'.out hE3)
                      have HR3 := Lib.hid (rowF_ext _ _ _ hE3 HR2.out)
                      rw [← hW3]
                      refine wpList_append rfl (.tmp 59) (.tmp 61) rfl (.slice (some ⟨g1, 0, none⟩) q q) (.slice (some ⟨w2.heap.size, 0, none⟩) 1 1) rfl rfl (fun v' w' => Ext W3 w' ∧ rowF elJ w.heap.size ((o.take q) ++ [z]) v' w') (append_full tpJ _ (some ⟨g1, 0, none⟩) (o.take q) [z] W3 w.heap.size _ _ (by rw [show (o.take q).length = q from by rw [List.length_take, Nat.min_eq_left (by rw [← HNO.out]; exact hqn)]]) (srcZ_take (rowE_ext HRO.out.1 HE3.out) q (by rw [← HNO.out]; exact hqn) _) (srcOf_one hon) (by simp) (by have := HNO.out; have := List.length_take_le q o; simp only [List.length_cons, List.length_nil]; omega) (Nat.le_trans (ext_size HE2.out) (ext_size HE3.out))) ?_
                      rintro v4 w4 ⟨hE4, hr4⟩
                      have HR4 := Lib.hid hr4
                      have HR24 := Lib.hid (rowF_ext _ _ _ hE4 HR3.out)
                      have HE4 := Lib.hid (ext_trans HE3.out hE4)
                      clear hW3 hE3 hon hE4 hr4
                      go_simp
                      go_wp2_with (at_builtin; refine halt_here ?_)
                      refine go_on ?_
                      refine wpList_append rfl (.tmp 62) (.tmp 63) rfl v4 v2 rfl rfl (fun v' w' => rowF elJ w.heap.size (((o.take q) ++ [z]) ++ []) v' w' ∧ w4.grownBy w' v4.ownBlock) (append_onto tpJ _ w.heap.size _ _ ((o.take q) ++ [z]) [] w4 HR4.out (srcOf_row HR24.out.1) (by have := HNO.out; have := List.length_take_le q o; rw [List.length_append]; simp only [List.length_cons, List.length_nil]; omega) (Nat.le_trans (ext_size HE2.out) (ext_size HE4.out))) ?_
                      rintro v5 w5 ⟨hr5, hg5⟩
                      have HR5 := Lib.hid hr5
                      have HE5 := Lib.hid (show Ext w w5 from ext_of_upd (upd_trans (upd_of_ext (ext_trans HE2.out HE4.out)) (upd_grown hg5) (fun i hi e => absurd hi (by have := HR4.out.2 _ e; omega))))
                      clear hr5 hg5
                      go_simp
                      go_wp2
                      go_roundw
                      case rel => exact ⟨2, by omega, by go_num, _, rfl, by rw [stg_2, ← HO.out, ← HZ.out, HIN.out]; exact HR5.out, HE5.out⟩
                      case measure => simp [intOf]
        · have hro' := Lib.hid hro
          have HE2 := Lib.hid hE2
          clear hro hE2
          go_wp2
          go_roundw
          case rel => exact ⟨j + 1, by omega, by go_num, _, rfl, by rw [nodesL_take HX.out]; exact hro'.out, HE2.out⟩
          case measure => simp [intOf]; omega
    · have h5 : j = n := by omega
      subst h5
      have hall : E.take j = E := by rw [HN.out, List.take_length]
      rw [hall] at HRV
      clear hall
      go_wp2
      refine bodyPost_ret (results_tmp rfl _ _ _) rfl ?_
      exact ⟨_, rfl, HRV.out, HE.out⟩
end Go.Proofs.Ytiabmdboacpmcaa
/- The document's Expire, walked. -/
namespace Go.Proofs.Ytiabmdboacpmcaa
open Go Go.RowKit Go.Sort Go.WideMaps Go.Maps
set_option maxHeartbeats 4000000

/-- the edges that last from a time on -/
def expL (E : List Ed) (b : Int) : List Ed := E.filter fun e => decide (b ≤ e.2)
theorem expL_take {E : List Ed} {b : Int} {j : Nat} {e : Ed} (h : E[j]? = some e) : expL (E.take (j + 1)) b = expL (E.take j) b ++ if b ≤ e.2 then [e] else [] := by
  unfold expL
  rw [List.take_add_one, h, Option.toList_some, List.filter_append]
  by_cases hb : b ≤ e.2
  · simp [hb]
  · simp [hb]
theorem expL_len (E : List Ed) (b : Int) : (expL E b).length ≤ E.length := List.length_filter_le ..
set_option maxRecDepth 100000 in
theorem refexp_any (v : Value) (E : List Ed) (b : Int) (w : World) (h : rowE elDr w v E) (hl : E.length ≤ 100) : Calls Try.prog 45 #[v, .int .i64 b] w fun e w' => ∃ v', e = .returned v' ∧ rowF elDr w.heap.size (expL E b) v' w' ∧ Ext w w' := by
  have HR := Lib.hid h
  obtain ⟨A0, c0, rfl⟩ := rowE_form h
  obtain ⟨n, hn⟩ : ∃ n, n = E.length := ⟨_, rfl⟩
  rw [← hn] at HR hl ⊢
  have HN := Lib.hid hn
  clear h hn
  go_enter Try.func45, Try.ntmps45
  go_wp2
  go_loopw [5, 9] (fun y x wn => ∃ j : Nat, j ≤ n ∧ x = .int .i64 (j : Int) ∧ ∃ vo, y = vo ∧ rowF elDr w.heap.size (expL (E.take j) b) vo wn ∧ Ext w wn) (fun _ x _ => n - (intOf x).toNat)
  case atStart => exact ⟨0, by omega, rfl, _, rfl, rowF_nil _ _, ext_refl _⟩
  case round =>
    rename World => wi
    obtain ⟨j, hj, rfl, vo, rfl, hR, hE⟩ := hrel
    have HRV := Lib.hid hR
    have HE := Lib.hid hE
    clear hR hE
    by_cases hlt : j < n
    · have hji : (j : Int) < (n : Int) := by omega
      have hj0 : (0 : Int) ≤ (j : Int) := by omega
      obtain ⟨x, hx⟩ : ∃ x, E[j]? = some x := ⟨_, List.getElem?_eq_getElem (by rw [← HN.out]; exact hlt)⟩
      have hri := rowE_ext HR.out HE.out
      obtain ⟨g, rfl, lg⟩ := rowE_some hri (fun e => by rw [e] at hx; simp at hx)
      have e0 : wi.cell? ⟨g, j * 4, none⟩ = some (.int .i64 x.1.a) := rowE_cell hri hx (j := 0) (u := .int .i64 x.1.a) rfl
      have e1 : wi.cell? ⟨g, j * 4 + 1, none⟩ = some (.int .i64 x.1.b) := rowE_cell hri hx (j := 1) (u := .int .i64 x.1.b) rfl
      have e2 : wi.cell? ⟨g, j * 4 + 2, none⟩ = some (.int .i64 x.1.c) := rowE_cell hri hx (j := 2) (u := .int .i64 x.1.c) rfl
      have e3 : wi.cell? ⟨g, j * 4 + 3, none⟩ = some (.int .i64 x.2) := rowE_cell hri hx (j := 3) (u := .int .i64 x.2) rfl
      have HT := Lib.hid (expL_take (b := b) hx)
      have hlen : (expL (E.take j) b).length ≤ 100 := by
        have h1 := expL_len (E.take j) b
        rw [List.length_take] at h1
        omega
      clear hx hri
      by_cases hb : b ≤ x.2
      · have HT' := Lib.hid (show expL (E.take (j + 1)) b = expL (E.take j) b ++ [x] by rw [HT.out, if_pos hb])
        go_wp2_with (at_builtin; refine halt_here ?_)
        refine go_on ?_
        obtain ⟨W3, hW3⟩ : ∃ W3, W3 = wi.alloc (.cells #[.int .i64 x.1.a, .int .i64 x.1.b, .int .i64 x.1.c, .int .i64 x.2] 75) := ⟨_, rfl⟩
        have hE3 : Ext wi W3 := by rw [hW3]; exact ext_alloc (ext_refl _) _
        have hon : oneF elDr w.heap.size x (.slice (some ⟨wi.heap.size, 0, none⟩) 1 1) W3 := ⟨wi.heap.size, rfl, ext_size HE.out, by rw [hW3]; exact heap_alloc_new _ _⟩
        rw [← hW3]
        refine wpList_append rfl (.tmp 19) (.tmp 24) rfl u5 (.slice (some ⟨wi.heap.size, 0, none⟩) 1 1) rfl rfl (fun v' w' => rowF elDr w.heap.size (expL (E.take j) b ++ [x]) v' w' ∧ W3.grownBy w' u5.ownBlock) (append_onto tpDr _ w.heap.size _ _ (expL (E.take j) b) [x] W3 (rowF_ext _ _ _ hE3 HRV.out) (srcOf_one hon) (by simp only [List.length_cons, List.length_nil]; omega) (ext_size (ext_trans HE.out hE3))) ?_
        rintro v7 w7 ⟨hr7, hg7⟩
        have HR7 := Lib.hid hr7
        have HE7 := Lib.hid (show Ext w w7 from ext_of_upd (upd_trans (upd_of_ext (ext_trans HE.out hE3)) (upd_grown hg7) (fun i hi e => absurd hi (by have := HRV.out.2 _ e; omega))))
        clear hW3 hE3 hon hr7 hg7
        go_simp
        go_wp2
        go_roundw
        case rel => exact ⟨j + 1, by omega, by go_num, _, rfl, by rw [HT'.out]; exact HR7.out, HE7.out⟩
        case measure => simp [intOf]; omega
      · have HT' := Lib.hid (show expL (E.take (j + 1)) b = expL (E.take j) b by rw [HT.out, if_neg hb, List.append_nil])
        go_wp2
        go_roundw
        case rel => exact ⟨j + 1, by omega, by go_num, _, rfl, by rw [HT'.out]; exact HRV.out, HE.out⟩
        case measure => simp [intOf]; omega
    · have h5 : j = n := by omega
      subst h5
      have hall : E.take j = E := by rw [HN.out, List.take_length]
      rw [hall] at HRV
      clear hall
      go_wp2
      refine bodyPost_ret (results_tmp rfl _ _ _) rfl ?_
      exact ⟨_, rfl, HRV.out, HE.out⟩
end Go.Proofs.Ytiabmdboacpmcaa
/- Plain: what is left of pairs behind a horizon; pairs counted row by row. -/
namespace Go.Proofs.Ytiabmdboacpmcaa
open Go

theorem run_max {E : Gr3} {h t x y : Int} {w : List Sy} (hr : Run (cutG E h) t x w y) : Run (cutG E h) (max t h) x w y := by
  induction hr with
  | nil x => exact .nil x
  | fwd h1 h2 _ ih => exact .fwd h1 (by have := (cutG_some.1 h1).2; omega) ih
  | bwd h1 h2 _ ih => exact .bwd h1 (by have := (cutG_some.1 h1).2; omega) ih
theorem cut_lead {L : List Sy → Prop} {E : Gr3} {h x y t : Int} (hd : Lead L E x y t) (ht : h ≤ t) (hx : isNode (cutG E h) x) : Lead L (cutG E h) x y t := by
  obtain ⟨_, h2, w, h3, h4⟩ := hd
  exact ⟨hx, h2, w, h3, run_cut h4 ht⟩
theorem cut_max {L : List Sy → Prop} {E : Gr3} {h x y t : Int} (hd : Lead L (cutG E h) x y t) (hh : h ≤ forever) : Lead L (cutG E h) x y (max t h) := by
  obtain ⟨h1, h2, w, h3, h4⟩ := hd
  exact ⟨h1, by omega, w, h3, run_max h4⟩
/-- what is left of the pairs -/
theorem cut_prs {L : List Sy → Prop} {E : Gr3} {h : Int} {p p' : Prs} (hp : PrsOf L E p) (hp' : PrsOf L (cutG E h) p') (hh : h ≤ forever) {x y : Int} (hx : isNode (cutG E h) x) (v : Int) : p' ⟨x, y⟩ = some v ↔ p ⟨x, y⟩ = some v ∧ h ≤ v := by
  rw [hp'.is, hp.is]
  constructor
  · rintro ⟨h1, h2⟩
    have h3 := h2 _ (cut_max h1 hh)
    refine ⟨⟨lead_mono (cutG_le E h) h1, fun t ht => ?_⟩, by omega⟩
    by_cases hc : h ≤ t
    · exact h2 t (cut_lead ht hc hx)
    · omega
  · rintro ⟨⟨h1, h2⟩, h3⟩
    exact ⟨cut_lead h1 h3 hx, fun t ht => h2 t (lead_mono (cutG_le E h) ht)⟩
theorem cut_val {L : List Sy → Prop} {E : Gr3} {h : Int} {p p' : Prs} (hp : PrsOf L E p) (hp' : PrsOf L (cutG E h) p') (hh : h ≤ forever) {x y : Int} (hx : isNode (cutG E h) x) :
    (p' ⟨x, y⟩).isSome = ((p ⟨x, y⟩).isSome && decide (h ≤ (p ⟨x, y⟩).getD 0)) ∧ ((p' ⟨x, y⟩).isSome = true → (p' ⟨x, y⟩).getD 0 = (p ⟨x, y⟩).getD 0) := by
  have hv := cut_prs hp hp' hh (y := y) hx
  cases h1 : p ⟨x, y⟩ with
  | none =>
    cases h2 : p' ⟨x, y⟩ with
    | none => simp
    | some v => have := ((hv v).1 h2).1; rw [h1] at this; cases this
  | some u =>
    by_cases hu : h ≤ u
    · have h2 := (hv u).2 ⟨h1, hu⟩
      rw [h2]
      simp [hu]
    · cases h2 : p' ⟨x, y⟩ with
      | none => simp [hu]
      | some v =>
        obtain ⟨h3, h4⟩ := (hv v).1 h2
        rw [h1] at h3
        cases h3
        exact absurd h4 hu
theorem prs_nodes {L : List Sy → Prop} {E : Gr3} {p : Prs} (hp : PrsOf L E p) {q : Two} (h : (p q).isSome = true) : isNode E q.a ∧ isNode E q.b := by
  obtain ⟨v, hv⟩ := Option.isSome_iff_exists.1 h
  obtain ⟨x, y⟩ := q
  exact lead_nodes ((hp.is x y v).1 hv).1
/-- how many pairs of a node there are among some nodes -/
def cntR (p : Prs) (x : Int) (Ns : List Int) : Nat := Ns.countP fun y => (p ⟨x, y⟩).isSome
/-- how many pairs there are of some nodes -/
def cntM (p : Prs) (Xs Ns : List Int) : Nat := (Xs.map fun x => cntR p x Ns).sum
theorem cntR_take {p : Prs} {x : Int} {Ns : List Int} {j : Nat} {y : Int} (h : Ns[j]? = some y) : cntR p x (Ns.take (j + 1)) = cntR p x (Ns.take j) + if (p ⟨x, y⟩).isSome = true then 1 else 0 := by
  unfold cntR
  rw [List.take_add_one, h, Option.toList_some, List.countP_append, List.countP_cons, List.countP_nil]
  omega
theorem cntM_take {p : Prs} {Ns : List Int} {Xs : List Int} {j : Nat} {x : Int} (h : Xs[j]? = some x) : cntM p (Xs.take (j + 1)) Ns = cntM p (Xs.take j) Ns + cntR p x Ns := by
  unfold cntM
  rw [List.take_add_one, h, Option.toList_some, List.map_append, List.sum_append]
  simp
theorem cntR_le (p : Prs) (x : Int) (Ns : List Int) : cntR p x Ns ≤ Ns.length := List.countP_le_length
theorem cntM_le (p : Prs) (Xs Ns : List Int) : cntM p Xs Ns ≤ Xs.length * Ns.length := by
  induction Xs with
  | nil => simp [cntM]
  | cons x Xs ih =>
    have h1 := cntR_le p x Ns
    unfold cntM at ih ⊢
    rw [List.map_cons, List.sum_cons, List.length_cons, Nat.add_mul, Nat.one_mul]
    omega
theorem cntM_len (p : Prs) (Xs Ns : List Int) : cntM p Xs Ns = (Xs.flatMap fun x => (Ns.filter fun y => (p ⟨x, y⟩).isSome).map fun y => (⟨x, y⟩ : Two)).length := by
  induction Xs with
  | nil => rfl
  | cons x Xs ih =>
    rw [List.flatMap_cons, List.length_append, List.length_map, ← ih, ← List.countP_eq_length_filter]
    unfold cntM cntR
    rw [List.map_cons, List.sum_cons]
theorem nodup_up {l : List Int} (h : l.Pairwise (· < ·)) : l.Nodup := h.imp (fun {a b} h e => by omega)
theorem cntM_card {p : Prs} {Ns : List Int} {bq N : Nat} {w : World} (hN : Ns.Nodup) (hm : ∀ q, (p q).isSome = true → q.a ∈ Ns ∧ q.b ∈ Ns) (h : MapQ bq N p w) : cntM p Ns Ns = N := by
  rw [cntM_len]
  refine mapG_card h ?_ (fun q => ?_)
  · have hall : ∀ Xs : List Int, Xs.Nodup → (Xs.flatMap fun x => (Ns.filter fun y => (p ⟨x, y⟩).isSome).map fun y => (⟨x, y⟩ : Two)).Nodup := by
      intro Xs
      induction Xs with
      | nil => intro _; exact List.nodup_nil
      | cons x Xs ih =>
        intro hX
        obtain ⟨h1, h2⟩ := List.nodup_cons.1 hX
        rw [List.flatMap_cons]
        refine List.nodup_append.2 ⟨?_, ih h2, fun a ha b hb e => ?_⟩
        · refine List.pairwise_map.2 ((List.Nodup.sublist (List.filter_sublist ..) hN).imp (fun {a b} hne e => hne ?_))
          simp only [Two.mk.injEq] at e
          exact e.2
        · obtain ⟨y, _, rfl⟩ := List.mem_map.1 ha
          obtain ⟨x', hx', hb⟩ := List.mem_flatMap.1 hb
          obtain ⟨y', _, rfl⟩ := List.mem_map.1 hb
          simp only [Two.mk.injEq] at e
          rw [e.1] at h1
          exact h1 hx'
    exact hall Ns hN
  · rw [List.mem_flatMap]
    constructor
    · rintro ⟨x, hx, hq⟩
      obtain ⟨y, hy, rfl⟩ := List.mem_map.1 hq
      exact (List.mem_filter.1 hy).2
    · intro hq
      obtain ⟨h1, h2⟩ := hm q hq
      obtain ⟨x, y⟩ := q
      exact ⟨x, h1, List.mem_map.2 ⟨y, List.mem_filter.2 ⟨h2, hq⟩, rfl⟩⟩
/-- the document's edges, cut -/
theorem grOf_exp : ∀ {E : List Ed} {b : Int}, KeysNd E → grOf (expL E b) = cutG (grOf E) b := by
  intro E b hnd
  have hnd' : KeysNd (expL E b) := List.Nodup.sublist ((List.filter_sublist ..).map _) hnd
  funext k
  refine Option.ext fun u => ?_
  rw [grOf_some hnd', cutG_some, grOf_some hnd]
  unfold expL
  rw [List.mem_filter]
  simp
theorem expL_nd {E : List Ed} {b : Int} (hnd : KeysNd E) : KeysNd (expL E b) := List.Nodup.sublist ((List.filter_sublist ..).map _) hnd
end Go.Proofs.Ytiabmdboacpmcaa
/- Expire: walked. -/
namespace Go.Proofs.Ytiabmdboacpmcaa
open Go Go.RowKit Go.Sort Go.WideMaps Go.Maps
set_option maxHeartbeats 4000000

theorem mid_hor {w0 w : World} {L : Loc} {room h h' : Int} {E : Gr3} {S : Int → Option Nat} {sub : Int → Key → Option Bool} {F : Nat → Prop} (H : MidH w0 L room h E S sub F w) : MidH w0 L room h' E S sub F (w.setCell ⟨L.pf, 2, none⟩ (.int .i64 h')) ∧ (∀ N f, MapP L.bb N f w → MapP L.bb N f (w.setCell ⟨L.pf, 2, none⟩ (.int .i64 h'))) := by
  have hU : Upd (fun b => b = L.pf) w (w.setCell ⟨L.pf, 2, none⟩ (.int .i64 h')) := upd_setCell (a := ⟨L.pf, 2, none⟩) _
  obtain ⟨N, h1⟩ := H.edges
  obtain ⟨M, h2⟩ := H.out
  refine ⟨⟨?_, ⟨N, mapG_upd h1 hU (fun e => mapG_off h1 H.blk e.symm)⟩, ⟨M, mapG_upd h2 hU (fun e => mapG_off h2 H.blk e.symm)⟩, fun n b hb => ?_, H.ne, H.sne, H.sinj, H.low, ?_, H.own⟩, fun N f hP => mapG_upd hP hU (fun e => mapG_off hP H.blk e.symm)⟩
  · have h5 := heap_setCell_at (j := 2) (u := .int .i64 h') H.blk
    exact h5
  · obtain ⟨N', h5⟩ := H.sub n b hb
    exact ⟨N', mapG_upd h5 hU (fun e => mapG_off h5 H.blk e.symm)⟩
  · exact ext_of_upd (upd_trans (upd_of_ext H.ext) hU (fun i hi e => by have e' : i = L.pf := e; have := H.low.1; omega))
/-- the edges while the old ones are dropped -/
def oldD (E : Gr3) (h : Int) (done : List Key) : Gr3 := fun k => if k ∈ done then cutG E h k else E k
theorem oldD_nil (E : Gr3) (h : Int) : oldD E h [] = E := by
  funext x
  unfold oldD
  rw [if_neg (by simp)]
theorem oldD_keep {E : Gr3} {h : Int} {done : List Key} {k : Key} {u : Int} (hk : E k = some u) (hu : ¬ u < h) : oldD E h (done ++ [k]) = oldD E h done := by
  funext z
  unfold oldD
  by_cases e : z = k
  · subst e
    have h1 : cutG E h z = some u := cutG_some.2 ⟨hk, by omega⟩
    rw [if_pos (by simp), h1]
    split
    · rfl
    · exact hk.symm
  · simp [e]
theorem oldD_drop {E : Gr3} {h : Int} {done : List Key} {k : Key} {u : Int} (hk : E k = some u) (hu : u < h) : oldD E h (done ++ [k]) = delG (oldD E h done) k := by
  funext z
  unfold oldD delG
  by_cases e : z = k
  · subst e
    rw [if_pos (by simp), if_pos rfl]
    unfold cutG
    rw [hk]
    simp only
    rw [if_neg (by omega)]
  · simp [e]
theorem oldD_all {E : Gr3} {h : Int} {done : List Key} (hall : ∀ k, (E k).isSome = true → k ∈ done) : oldD E h done = cutG E h := by
  funext k
  unfold oldD
  by_cases hm : k ∈ done
  · rw [if_pos hm]
  · rw [if_neg hm]
    cases hk : E k with
    | none => unfold cutG; rw [hk]
    | some u => exact absurd (hall k (by rw [hk]; rfl)) hm
theorem left_fix {A : Auto} {E : Gr3} {f : Bst} {h : Int} {S : Int → Option Nat} (hf : FixB A E f) (hS : ∀ n, (S n).isSome = true ↔ isNode (cutG E h) n) (htop : ∀ k u, E k = some u → u ≤ forever) : FixB A (cutG E h) (leftB h S f) := by
  refine cut_fix hf (fun x v => ?_) htop
  unfold leftB goneB
  cases hx : f x with
  | none => simp
  | some u =>
    simp only
    rw [← hS, ← hS]
    cases ha : S x.a <;> cases hb : S x.b <;> by_cases hu : u < h <;> simp [hu] <;> omega
def ExpTo (w0 : World) (L : Loc) (room h : Int) (E : Gr3) (mv : List Mv) (b : Nat) (F : Nat → Prop) (n : Int) (w : World) (e : Ending) (w' : World) : Prop :=
  e = .returned (.int .i64 n) ∧ ForM w0 L room h (cutG E h) mv b F w' ∧ Upd F w w'
set_option maxRecDepth 100000 in
theorem exp_any (w0 : World) (L : Loc) (room h : Int) (E : Gr3) (b : Nat) (mv : List Mv) (F : Nat → Prop) (ks ks' : List Key) (t h' : Int) (w : World)
    (H : ForM w0 L room h E mv b F w) (hC : Card E ks) (hC' : Card (cutG E h') ks') (hkl : ks.length ≤ 100000) (hh : h' = max h t) (htop : ∀ k u, E k = some u → u ≤ forever) :
    Calls Try.prog 46 #[ptr L.pf, .int .i64 t] w (ExpTo w0 L room h' E mv b F ((ks.length : Int) - (ks'.length : Int)) w) := by
  obtain ⟨S, f0, hMid, hBest, hFix, hNodes⟩ := H.ex
  obtain ⟨W, hW⟩ : ∃ W, W = w.alloc (.cells #[ptr L.pf] 61) := ⟨_, rfl⟩
  have hE0 : Ext w W := by rw [hW]; exact ext_alloc (ext_refl _) _
  obtain ⟨bf, hbf⟩ : ∃ b, b = w.heap.size := ⟨_, rfl⟩
  have hK : W.heap[bf]? = some (.cells #[ptr L.pf] 61 (0, 0)) := by rw [hW, hbf]; exact heap_alloc_new _ _
  obtain ⟨F1, hF1⟩ : ∃ F1 : Nat → Prop, F1 = fun b => F b ∧ b < w.heap.size := ⟨_, rfl⟩
  have hbw : L.bb < w.heap.size := by obtain ⟨NB, hNB⟩ := hBest; exact mapG_lt hNB
  have hM1 := midH_ext (mid_own hMid hbw (F' := F1) (fun b hb hF => by rw [hF1]; exact ⟨hF, hb⟩)) hE0
  have HM1 := Lib.hid hM1
  have HB1 := Lib.hid (best_ext hBest hE0)
  have HFX := Lib.hid (fun S' => left_fix (h := h') (S := S') hFix)
  have HTOP := Lib.hid htop
  have HND := Lib.hid hNodes
  have HC := Lib.hid (And.intro hC hC')
  have HE0 := Lib.hid hE0
  have HK := Lib.hid hK
  have HW := Lib.hid (And.intro hW hbf)
  have HF1 := Lib.hid hF1
  have HH := Lib.hid hh
  have q0 := block_cell hK 0
  have f0' := block_lt hK
  have p2 := block_cell hM1.blk 2
  have l0 := block_lt hM1.blk
  have z2 := block_frozen hM1.blk 2
  clear H hMid hBest hFix hNodes hC hC' hW hE0 hbf hK hF1 hbw hM1 htop hh
  go_enter Try.func46, Try.ntmps46
  have hgc := cell_grown
  go_wp2
  rw [← HW.out.1, ← HW.out.2]
  refine wp_region_mix [] [0, 1, 2, 3, 4, 5, 6, 7, 8] [] [9] (by kernel_rfl) (by kernel_rfl) (fun _ _ d _ _ h => by cases d <;> exact h) ?_
  refine wpPre_nil ?_
  repeat (refine wpLoose_step rfl (fun K hK => ?_); (try simp only [Oper.quietAt, Oper.quietUpon]); go_simp; (refine hK _ ?_; clear hK K))
  refine wpLoose_nil (wpFresh_nil (fun w2 hE2 _ => ?_))
  try simp only [List.drop_succ_cons, List.drop_zero]
  have HE2 := Lib.hid hE2
  clear q0 f0' p2 l0 z2 hE2 hgc
  have hm2 := midH_ext HM1.out HE2.out
  have hm3 := mid_hor (h' := max h t) hm2
  have p2 := block_cell hm2.blk 2
  have z2 := block_frozen hm2.blk 2
  have l0 := block_lt hm2.blk
  obtain ⟨w3, hw3⟩ : ∃ w3, w3 = w2.setCell ⟨L.pf, 2, none⟩ (.int .i64 (max h t)) := ⟨_, rfl⟩
  have hU3 : Upd (fun b => b = L.pf) w2 w3 := by rw [hw3]; exact upd_setCell (a := ⟨L.pf, 2, none⟩) _
  rw [← hw3, ← HH.out] at hm3
  have HW3 := Lib.hid hw3
  have hbl2 : ∃ N, MapP L.bb N f0 w2 := best_ext HB1.out HE2.out
  have hb3 : Best L f0 w3 := by
    obtain ⟨NB, hNB⟩ := hbl2
    exact ⟨NB, hm3.2 NB f0 hNB⟩
  have hpf : bf ≠ L.pf := fun e => by
    have h5 := HK.out
    rw [e, HM1.out.blk] at h5
    simp only [Option.some.injEq, Obj.cells.injEq] at h5
    exact absurd h5.2.1 (by decide)
  have hk3 := (hU3.block bf (ext_lt HE2.out (block_lt HK.out)) hpf).trans ((ext_block HE2.out (block_lt HK.out)).trans HK.out)
  have hUw3 : Upd F1 w w3 := upd_trans (upd_of_ext (ext_trans HE0.out HE2.out)) hU3 (fun i _ e => by have e' : i = L.pf := e; rw [e']; exact HM1.out.own.1)
  have HM3 := Lib.hid hm3.1
  have HB3 := Lib.hid hb3
  have HK3 := Lib.hid hk3
  have HU3 := Lib.hid hUw3
  clear hm2 hm3 hw3 hU3 hbl2 hb3 hpf hk3 hUw3
  obtain ⟨NE, hNE⟩ := HM3.out.edges
  have HN := Lib.hid (card_len HC.out.1 hNE)
  have HNE := Lib.hid hNE
  have hlen : ∀ ty, (Builtin.len_ #[95] ty #[.map (some L.be)]).run Try.prog (w2.setCell ⟨L.pf, 2, none⟩ (.int .i64 (max h t))) = .ok (.int .i64 (NE : Int)) (w2.setCell ⟨L.pf, 2, none⟩ (.int .i64 (max h t))) := fun ty => by rw [← HW3.out]; exact len_G Try.underlying95 hNE
  have q0 : (w2.setCell ⟨L.pf, 2, none⟩ (.int .i64 (max h t))).cell? ⟨bf, 0, none⟩ = some (ptr L.pf) := by rw [← HW3.out]; exact block_cell HK3.out 0
  have f0' : bf < (w2.setCell ⟨L.pf, 2, none⟩ (.int .i64 (max h t))).heap.size := by rw [← HW3.out]; exact block_lt HK3.out
  have p3 : (w2.setCell ⟨L.pf, 2, none⟩ (.int .i64 (max h t))).cell? ⟨L.pf, 3, none⟩ = some (.map (some L.be)) := by rw [← HW3.out]; exact block_cell HM3.out.blk 3
  have l1 : L.pf < (w2.setCell ⟨L.pf, 2, none⟩ (.int .i64 (max h t))).heap.size := by rw [← HW3.out]; exact block_lt HM3.out.blk
  clear hNE
  refine wpSeq_of_list [9] [_] _ _ rfl ?_
  go_wp2_with fail
  rw [← HW3.out]
  clear p2 z2 l0 hlen q0 f0' p3 l1
  refine (cloneE_any L.be NE E w3 HNE.out).mono ?_
  rintro e w4 ⟨rfl, hcl, hE4, hs4⟩
  obtain ⟨bc, hbc⟩ : ∃ b, b = w3.heap.size := ⟨_, rfl⟩
  rw [← hbc] at hcl hs4 ⊢
  have HCL := Lib.hid hcl
  have HBC := Lib.hid hbc
  have HE4 := Lib.hid hE4
  clear hcl hE4 hs4 hbc
  go_wp2_with (first
    | (at_range; refine wpList_range_G _ rfl _ _ rfl Try.underlying95 rfl HCL.out ?_; intro w5 r hr0; have HLR := Lib.hid hr0; clear hr0; intro hrng hE5 hs5)
    | go_in)
  have HRN := Lib.hid hrng
  have HE5 := Lib.hid (ext_trans HE4.out hE5)
  have HLR' := Lib.hid (show w.heap.size ≤ r ∧ w.heap.size ≤ bc from by
    have h5 := HU3.out.size
    have h6 := ext_size HE4.out
    have h7 := HLR.out
    have h8 := HBC.out
    omega)
  clear hrng hE5 hs5
  go_simp
  go_loopw [] (fun wn => ∃ (done : List Key) (S' : Int → Option Nat), RngG kK eI bc r NE E done wn ∧ MidH w0 L room h' (oldD E h' done) S' (subF (oldD E h' done)) F1 wn ∧ Best L f0 wn ∧ (∀ n, (S' n).isSome = true ↔ isNode (oldD E h' done) n) ∧ wn.heap[bf]? = some (.cells #[ptr L.pf] 61 (0, 0)) ∧ Upd F1 w wn) (fun wn => wn.rangeLeft bc r)
  case atStart => exact ⟨[], S, HRN.out, by rw [oldD_nil]; exact midH_ext HM3.out HE5.out, best_ext HB3.out HE5.out, by rw [oldD_nil]; exact HND.out, (ext_block HE5.out (block_lt HK3.out)).trans HK3.out, upd_trans HU3.out (upd_of_ext (fp := fun _ => False) HE5.out) (fun _ _ h => h.elim)⟩
  case round =>
    rename World => wn
    obtain ⟨done, S', hR, hM, hB, hN, hK, hU⟩ := hrel
    have HR := Lib.hid hR
    have HM := Lib.hid hM
    have HB := Lib.hid hB
    have HN' := Lib.hid hN
    have HKN := Lib.hid hK
    have HU := Lib.hid hU
    clear hR hM hB hN hK hU
    go_wp2_with (first
      | (at_next; refine wpList_next_G wn rfl _ rfl rfl HR.out ?_ ?_)
      | go_in)
    · intro hall
      have hM := HM.out
      have hN := HN'.out
      rw [oldD_all hall] at hM hN
      obtain ⟨NC, hNC⟩ := hM.edges
      obtain ⟨NO, hNO⟩ := hM.out
      obtain ⟨NP, hNP⟩ := HB.out
      have hcl := card_len HC.out.2 hNC
      have hle : NC ≤ NE := by
        rw [hcl, HN.out]
        exact nodupK_le HC.out.2.nd (fun k hk => (HC.out.1.mem k).2 (by
          obtain ⟨u, hu⟩ := Option.isSome_iff_exists.1 ((HC.out.2.mem k).1 hk)
          rw [(cutG_some.1 hu).1]; rfl))
      have hNEl : NE ≤ 100000 := by rw [HN.out]; exact hkl
      have HD := Lib.hid (delf_any L room h' S' NO NP bf f0 wn hNP HKN.out hM.blk hNO hM.ne.2.2)
      have HMC := Lib.hid hM
      have HNN := Lib.hid hN
      have HCL' := Lib.hid hcl
      have hsub : IntKind.i64.wrap ((NE : Int) - (NC : Int)) = (NE : Int) - (NC : Int) := IntWalk.i64_in _ (by omega)
      have q0 := block_cell HKN.out 0
      have f0' := block_lt HKN.out
      have p5 := block_cell hM.blk 5
      have l0 := block_lt hM.blk
      clear hall hM hN hNC hNO hNP hcl hle hNEl
      go_wp2_with fail
      refine HD.out.mono ?_
      rintro e w6 ⟨rfl, hP6, hU6⟩
      have hbb := HB.out
      have hm6 := mid_best HMC.out (by obtain ⟨N, hN⟩ := hbb; exact ⟨N, f0, hN⟩) hU6
      have hk6 := (hU6.block bf (block_lt HKN.out) (by obtain ⟨N, hN⟩ := hbb; exact mapG_off hN HKN.out)).trans HKN.out
      obtain ⟨N6, hN6⟩ := hm6.edges
      have h6 : N6 = NC := (card_len HC.out.2 hN6).trans HCL'.out.symm
      rw [h6] at hN6
      have hlen : ∀ ty, (Builtin.len_ #[95] ty #[.map (some L.be)]).run Try.prog w6 = .ok (.int .i64 (NC : Int)) w6 := fun ty => len_G Try.underlying95 hN6
      have HF := Lib.hid (show ExpTo w0 L room h' E mv b F ((ks.length : Int) - (ks'.length : Int)) w (.returned (.int .i64 ((NE : Int) - (NC : Int)))) w6 from ⟨by rw [HN.out, HCL'.out], ⟨⟨S', leftB h' S' f0, mid_own hm6 (by obtain ⟨N, hN⟩ := hP6; exact mapG_lt hN) (fun b _ hf => by rw [HF1.out] at hf; exact hf.1), hP6, HFX.out S' HNN.out HTOP.out, HNN.out⟩⟩, upd_trans (upd_mono HU.out (fun b _ hf => by rw [HF1.out] at hf; exact hf.1)) hU6 (fun b _ e => by
        have e' : b = L.bb := e
        rw [e']
        have h7 := HMC.out.own.2.2.2.1
        rw [HF1.out] at h7
        exact h7.1)⟩)
      clear q0 f0' p5 l0 
      have q0 := block_cell hk6 0
      have f0' := block_lt hk6
      have p3 := block_cell hm6.blk 3
      have l0 := block_lt hm6.blk
      clear hP6 hU6 hbb hm6 hk6 hN6 h6
      go_wp2
      refine bodyPost_ret (results_tmp rfl _ _ _) rfl ?_
      exact HF.out
    · intro k lasts w6 hfx hnx hR6 hlt6 hg6 hs6 hent
      rw [show kK.val k = .agg #[.int .i64 k.a, .int .i64 k.b, .int .i64 k.c] from rfl, show eI.val lasts = .int .i64 lasts from rfl] at hent ⊢
      have hok : ok3 k := (mapG_out (rngG_map HR.out) hfx).1
      obtain ⟨ka, kb, kc⟩ := k
      have hU6 := upd_grown hg6
      obtain ⟨wa, hwa⟩ : ∃ x', x' = w6.alloc (.cells #[.int .i64 ka, .int .i64 kb, .int .i64 kc] 85) := ⟨_, rfl⟩
      have hEa : Ext w6 wa := by rw [hwa]; exact ext_alloc (ext_refl _) _
      obtain ⟨bk, hbk⟩ : ∃ b, b = w6.heap.size := ⟨_, rfl⟩
      have hka : wa.heap[bk]? = some (.cells #[.int .i64 ka, .int .i64 kb, .int .i64 kc] 85 (0, 0)) := by rw [hwa, hbk]; exact heap_alloc_new _ _
      have hUr : Upd (fun b => b = r) wn wa := upd_trans (upd_mono hU6 (fun i _ e => (Option.some.inj e).symm)) (upd_of_ext (fp := fun _ => False) hEa) (fun _ _ h => h.elim)
      have hnr : ∀ b, F1 b ∨ b < w0.heap.size → ¬ (b = r) := fun b hb e => by
        have h8 := HLR'.out.1
        rcases hb with hb | hb
        · rw [HF1.out] at hb
          have := hb.2
          omega
        · have := ext_size HM.out.ext
          have h9 := HLR.out
          have h10 := ext_size HM1.out.ext
          have h11 := ext_size HE2.out
          have h12 := ext_size HM3.out.ext
          have h13 := ext_size HE4.out
          omega
      have hma := mid_upd HM.out hUr hnr
      have hba : Best L f0 wa := by
        obtain ⟨NB, hNB⟩ := HB.out
        exact ⟨NB, mapG_upd hNB hUr (hnr _ (.inl HM.out.own.2.2.2.1))⟩
      have hfa := (hUr.block bf (block_lt HKN.out) (fun e => (rngG_off HR.out HKN.out).2 e)).trans HKN.out
      have hua : Upd F1 w wa := upd_trans HU.out hUr (fun i hi e => absurd hi (by have e' : i = r := e; have := HLR'.out.1; omega))
      have HRA := Lib.hid (rngG_ext hR6 hEa)
      have HLA := Lib.hid (show wa.rangeLeft bc r < wn.rangeLeft bc r by rw [left_ext hR6 hEa]; exact hlt6)
      have HMA := Lib.hid hma
      have HBA := Lib.hid hba
      have HFA := Lib.hid hfa
      have HUA := Lib.hid hua
      have HKA := Lib.hid hka
      have HFX' := Lib.hid hfx
      have HOK := Lib.hid hok
      have HWB := Lib.hid (And.intro hwa hbk)
      clear hfx hnx hR6 hlt6 hg6 hs6 hok hU6 hEa hka hUr hnr hma hba hfa hua hwa hbk
      have q0 : (w6.alloc (.cells #[.int .i64 ka, .int .i64 kb, .int .i64 kc] 85)).cell? ⟨bf, 0, none⟩ = some (ptr L.pf) := by rw [← HWB.out.1]; exact block_cell HFA.out 0
      have f0' : bf < (w6.alloc (.cells #[.int .i64 ka, .int .i64 kb, .int .i64 kc] 85)).heap.size := by rw [← HWB.out.1]; exact block_lt HFA.out
      have p2 : (w6.alloc (.cells #[.int .i64 ka, .int .i64 kb, .int .i64 kc] 85)).cell? ⟨L.pf, 2, none⟩ = some (.int .i64 h') := by rw [← HWB.out.1]; exact block_cell HMA.out.blk 2
      have l0 : L.pf < (w6.alloc (.cells #[.int .i64 ka, .int .i64 kb, .int .i64 kc] 85)).heap.size := by rw [← HWB.out.1]; exact block_lt HMA.out.blk
      by_cases hlow : lasts < h'
      · have HLOW := Lib.hid hlow
        go_wp2_with fail
        rw [← HWB.out.1]
        refine (drop_any w0 L room h' (oldD E h' done) S' F1 f0 ⟨ka, kb, kc⟩ wa HMA.out HBA.out HN'.out HOK.out).mono ?_
        rintro e w7 ⟨rfl, S7, hm7, hb7, hn7, hu7⟩
        have hnr : ∀ b, w.heap.size ≤ b → ¬ F1 b := fun b hb hf => by
          rw [HF1.out] at hf
          have := hf.2
          omega
        have hfw : w.heap.size ≤ bf := by rw [HW.out.2]; exact Nat.le_refl _
        have HREL := Lib.hid (show RngG kK eI bc r NE E (done ++ [⟨ka, kb, kc⟩]) w7 ∧ MidH w0 L room h' (oldD E h' (done ++ [⟨ka, kb, kc⟩])) S7 (subF (oldD E h' (done ++ [⟨ka, kb, kc⟩]))) F1 w7 ∧ Best L f0 w7 ∧ (∀ n, (S7 n).isSome = true ↔ isNode (oldD E h' (done ++ [⟨ka, kb, kc⟩])) n) ∧ w7.heap[bf]? = some (.cells #[ptr L.pf] 61 (0, 0)) ∧ Upd F1 w w7 from by
          rw [oldD_drop HFX'.out HLOW.out]
          exact ⟨rngG_upd HRA.out hu7 (hnr _ HLR'.out.2) (hnr _ HLR'.out.1), hm7, hb7, hn7, (hu7.block bf (block_lt HFA.out) (hnr _ hfw)).trans HFA.out, upd_trans HUA.out hu7 (fun _ _ h => h)⟩)
        have HL7 := Lib.hid (show w7.rangeLeft bc r < wn.rangeLeft bc r by rw [left_upd HRA.out hu7 (hnr _ HLR'.out.2) (hnr _ HLR'.out.1)]; exact HLA.out)
        clear hm7 hb7 hn7 hu7 hnr hfw hlow q0 f0' p2 l0
        rw [← HWB.out.2]
        go_wp2
        go_roundw
        case rel => exact ⟨_, S7, HREL.out⟩
        case measure => exact HL7.out
      · have HREL := Lib.hid (show RngG kK eI bc r NE E (done ++ [⟨ka, kb, kc⟩]) wa ∧ MidH w0 L room h' (oldD E h' (done ++ [⟨ka, kb, kc⟩])) S' (subF (oldD E h' (done ++ [⟨ka, kb, kc⟩]))) F1 wa ∧ Best L f0 wa ∧ (∀ n, (S' n).isSome = true ↔ isNode (oldD E h' (done ++ [⟨ka, kb, kc⟩])) n) ∧ wa.heap[bf]? = some (.cells #[ptr L.pf] 61 (0, 0)) ∧ Upd F1 w wa from by
          rw [oldD_keep HFX'.out hlow]
          exact ⟨HRA.out, HMA.out, HBA.out, HN'.out, HFA.out, HUA.out⟩)
        rw [HWB.out.1] at HREL HLA
        clear HWB
        go_wp2
        go_roundw
        case rel => exact ⟨_, S', HREL.out⟩
        case measure => exact HLA.out
end Go.Proofs.Ytiabmdboacpmcaa
/- ReachExpires. -/
namespace Go.Proofs.Ytiabmdboacpmcaa
open Go Go.RowKit Go.Sort Go.WideMaps Go.Maps
set_option maxHeartbeats 4000000

theorem exp_foR {t : Tr} {E : List Ed} {H N : Nat} {w0 : World} {L : Loc} {ve : Value} {w : World} (b : Int) (h : FoR t E H N w0 L ve w) (hnd : KeysNd E) (hs : ∀ e ∈ E, smallE e) (hl : E.length ≤ 100) (hb : minI ≤ b) :
    Calls Try.prog 46 #[ptr L.pf, .int .i64 b] w fun e w' => e = .returned (.int .i64 ((E.length : Int) - ((expL E b).length : Int))) ∧ ∃ F, (∀ b, F b → H ≤ b ∧ b < N) ∧ Fo t w0 L 100 b (grOf (expL E b)) F w' ∧ Upd F w w' := by
  obtain ⟨F, h1, h2, h3, h4⟩ := h
  have hc : Card (cutG (grOf E) b) ((expL E b).map (·.1)) := by rw [← grOf_exp hnd]; exact card_of (expL_nd hnd)
  refine (exp_any w0 L 100 minI (grOf E) 0 (mvT t) F (E.map (·.1)) ((expL E b).map (·.1)) b b w h1.form (card_of hnd) hc (by rw [List.length_map]; omega) (by rw [Int.max_eq_right hb]) (fun k u hk => ?_)).mono ?_
  · have := (hs _ ((grOf_some hnd).1 hk)).2.2.2.2.2.2.2
    unfold forever
    simp only at this
    omega
  · rintro e w' ⟨rfl, hF, hU⟩
    refine ⟨by rw [List.length_map, List.length_map], F, h2, ⟨h1.mach, ?_⟩, hU⟩
    rw [grOf_exp hnd]
    exact hF
set_option maxRecDepth 100000 in
theorem expires_law (v va : Value) (L : List Nd) (LA : List AR) (tn : Nat) (w : World) (hv : RdNd w v L) (ha : RdAR w va LA) (ht : tn ≤ 255) : Calls Try.prog 14 #[v, va, .int .u8 (tn : Int)] w fun e w' => e = .returned (.bool true) ∧ Ext w w' := by
  have HV := Lib.hid hv
  have HA := Lib.hid ha
  obtain ⟨A1, c1, rfl, hok1, -⟩ := ha
  obtain ⟨na, hna⟩ : ∃ n, n = LA.length := ⟨_, rfl⟩
  rw [← hna] at HA ⊢
  have HN := Lib.hid hna
  clear hv hna hok1
  go_enter Try.func14, Try.ntmps14
  go_wp2_with fail
  refine (awake11_any _).mono ?_
  rintro e w1 ⟨rfl, hE1⟩
  have HE1 := Lib.hid hE1
  clear hE1
  by_cases hbna : (12 : Int) < (na : Int)
  · go_wp2_with fail
    refine (awake11_any _).mono ?_
    rintro e w2 ⟨rfl, hE2⟩
    have HE2 := Lib.hid (ext_trans HE1.out hE2)
    clear hE2
    go_wp2
    refine bodyPost_ret (results_tmp rfl _ _ _) rfl ?_
    exact ⟨rfl, HE2.out⟩
  go_wp2_with fail
  refine (fix_any v L _ (rdNd_ext HV.out HE1.out)).mono ?_
  rintro e w2 ⟨L', v', rfl, hr, hF, hl, hE2⟩
  have HR := Lib.hid hr
  have HF := Lib.hid hF
  have HE2 := Lib.hid (ext_trans HE1.out hE2)
  have hl8 : L'.length ≤ 8 := by omega
  clear hr hF hE2 hl
  go_wp2_with fail
  refine (tree_fix 8 (by decide) (by decide) v' L' _ HR.out HF.out hl8).mono ?_
  rintro e w3 ⟨rb, n, t, k, z, A, q, c, rfl, hn, hfit, hlst, hpv, hE3⟩
  obtain ⟨hfb, hch, -⟩ := fit_chk hfit (by decide)
  have hsz : sizeT t ≤ 300 := by have := hfit.2.1; omega
  have HLS := Lib.hid hlst
  have HPV := Lib.hid hpv
  have HE3 := Lib.hid (ext_trans HE2.out hE3)
  clear hfit hlst hpv hE3 hfb hl8
  go_wp2_with fail
  have hE4 := ext_alloc (ext_refl w3) (.cells #[.int .i64 k, .int .i64 z, .slice A q c] 30)
  have hB4 := heap_alloc_new w3 (.cells #[.int .i64 k, .int .i64 z, .slice A q c] 30)
  obtain ⟨w4, hw4⟩ : ∃ w4, w4 = w3.alloc (.cells #[.int .i64 k, .int .i64 z, .slice A q c] 30) := ⟨_, rfl⟩
  obtain ⟨p6, hp6⟩ : ∃ p6, p6 = w3.heap.size := ⟨_, rfl⟩
  rw [← hw4] at hE4 hB4 ⊢
  rw [← hp6] at hB4 ⊢
  have HB4 := Lib.hid hB4
  have HE4 := Lib.hid (ext_trans HE3.out hE4)
  have HL4 := Lib.hid (lst_ext HLS.out hE4)
  have HP4 := Lib.hid (PV_ext HPV.out hE4)
  clear hw4 hp6 hE4 hB4 HLS HPV HE3
  refine (rcheck_any t rb n 0 _ (by omega) hn HL4.out).mono ?_
  rintro e w5 ⟨rfl, hE5⟩
  have h45 := (ext_block hE5 (block_lt HB4.out)).trans HB4.out
  have HP5 := Lib.hid (PV_ext HP4.out hE5)
  have HB5 := Lib.hid h45
  have HE5 := Lib.hid (ext_trans HE4.out hE5)
  clear hE5 h45 HP4 HB4 HE4
  by_cases hz : chk t = 0
  · rw [hz]
    have HZ := Lib.hid hz
    have hna : LA.length ≤ 12 := by rw [← HN.out]; omega
    have b0 := block_cell HB5.out 0
    have b1 := block_cell HB5.out 1
    have b2 := block_cell HB5.out 2
    have bl := block_lt HB5.out
    clear hz hch
    go_wp2_with fail
    have ha5 := rdAR_ext HA.out HE5.out
    refine (forest_any t _ _ LA w5 HP5.out HZ.out ha5 (by omega)).mono ?_
    rintro e w6 ⟨w0, Lc, ve, rfl, hF6, hE6⟩
    obtain ⟨E, hEE⟩ : ∃ E, E = edsL LA := ⟨_, rfl⟩
    have HND := Lib.hid (show KeysNd E by rw [hEE]; exact edsL_nd _)
    have HSM := Lib.hid (show ∀ e ∈ E, smallE e by rw [hEE]; exact edsL_small _)
    have hel : E.length ≤ 12 := by rw [hEE]; exact Nat.le_trans (edsL_len _) hna
    rw [← hEE] at hF6
    have HF6 := Lib.hid hF6
    have HE6 := Lib.hid (ext_trans HE5.out hE6)
    clear ha5 hF6 hE6 b0 b1 b2 bl hEE
    go_wp2_with fail
    refine (pairs_foR HF6.out HND.out (by omega)).mono ?_
    rintro e w7 ⟨qb, NQ, p, rfl, hQ, hP, hq0, hE7⟩
    have HQ := Lib.hid hQ
    have HP := Lib.hid hP
    have HQ0 := Lib.hid hq0
    have HF7 := Lib.hid (foR_ext HF6.out hE7)
    have HE7 := Lib.hid (ext_trans HE6.out hE7)
    clear hQ hP hE7 hq0
    go_wp2_with fail
    refine (refexp_any ve E ((tn : Int) % 20) w7 (by obtain ⟨F, _, _, h3, _⟩ := HF7.out; exact h3.1) (by omega)).mono ?_
    rintro e w8 ⟨vl, rfl, hrl, hE8⟩
    have HF8 := Lib.hid (foR_ext HF7.out hE8)
    have HQ8 := Lib.hid (mapG_ext HQ.out hE8)
    have HE8 := Lib.hid (ext_trans HE7.out hE8)
    have HRL := Lib.hid hrl
    have HSZ := Lib.hid (ext_size hE8)
    clear hrl hE8
    have hxl := expL_len E ((tn : Int) % 20)
    obtain ⟨ne, hne⟩ : ∃ n, n = E.length := ⟨_, rfl⟩
    obtain ⟨nl, hnl⟩ : ∃ n, n = (expL E ((tn : Int) % 20)).length := ⟨_, rfl⟩
    have hrow : rowE elDr w8 ve E := by obtain ⟨F, _, _, h3, _⟩ := HF8.out; exact h3.1
    obtain ⟨Ae, ce, hve⟩ := rowE_form hrow
    obtain ⟨Al, cl, hvl⟩ := rowE_form HRL.out.1
    have hsub : IntKind.i64.wrap ((ne : Int) - (nl : Int)) = (ne : Int) - (nl : Int) := IntWalk.i64_in _ (by omega)
    have HX := Lib.hid (exp_foR ((tn : Int) % 20) HF8.out HND.out HSM.out (by omega) (by unfold minI; omega))
    rw [← hne] at hve HX
    rw [← hnl] at hvl HX
    have HNE := Lib.hid hne
    have HNL := Lib.hid hnl
    have HLL := Lib.hid (show nl ≤ 12 by omega)
    subst hve
    rw [hvl] at HRL
    subst hvl
    clear hrow hne hnl hxl
    go_wp2_with fail
    refine HX.out.mono ?_
    rintro e w9 ⟨rfl, F, hFb, hFo, hU⟩
    have hw9 : Ext w w9 := ext_of_upd (upd_trans (upd_of_ext HE8.out) hU (fun i hi hf => absurd hi (by have h5 := (hFb i hf).1; have h6 := ext_size HE5.out; omega)))
    have hQ9 := mapG_upd HQ8.out hU (fun hf => by have h5 := (hFb _ hf).2; have h6 := HQ0.out; omega)
    have hL9 := rowE_upd HRL.out.1 hU (fun g hg hf => by
      have h5 := (hFb _ hf).2
      have h6 := HRL.out.2 g hg
      have h7 := HQ0.out
      have h8 := mapG_lt HQ.out
      omega)
    have HL9 := Lib.hid hL9
    have HW9 := Lib.hid hw9
    have HQ9 := Lib.hid hQ9
    have HFO := Lib.hid hFo
    have HLN := Lib.hid (len_any t w0 Lc 100 ((tn : Int) % 20) (grOf (expL E ((tn : Int) % 20))) F ((expL E ((tn : Int) % 20)).map (·.1)) w9 hFo (card_of (expL_nd HND.out)))
    rw [List.length_map, ← HNL.out] at HLN
    clear hFb hFo hU hw9 hQ9 hL9
    go_wp2_with fail
    refine HLN.out.mono ?_
    rintro e w10 ⟨rfl, hw10⟩
    have hw11 := hw10.symm
    subst hw11
    clear hw10 hsub
    go_wp2_with fail
    refine (pairs_any t w0 Lc 100 ((tn : Int) % 20) _ F _ _ HFO.out (card_of (expL_nd HND.out)) (by rw [List.length_map, ← HNL.out]; have := HLL.out; omega)).mono ?_
    rintro e w11 ⟨q2, N2, p2, rfl, hQ2, hP2, -, hE11⟩
    have HQ2 := Lib.hid hQ2
    have HP2 := Lib.hid hP2
    have HQ11 := Lib.hid (mapG_ext HQ9.out hE11)
    have HL11 := Lib.hid (rowE_ext HL9.out hE11)
    have HE11 := Lib.hid (ext_trans HW9.out hE11)
    clear hQ2 hP2 hE11
    go_wp2_with fail
    refine (nodes_any _ (expL E ((tn : Int) % 20)) w11 HL11.out (by rw [← HNL.out]; have := HLL.out; omega)).mono ?_
    rintro e wN ⟨vn, rfl, hrn, hE12⟩
    have HQN := Lib.hid (mapG_ext HQ11.out hE12)
    have HQN2 := Lib.hid (mapG_ext HQ2.out hE12)
    have HEN := Lib.hid (ext_trans HE11.out hE12)
    obtain ⟨K, hK⟩ : ∃ K, K = nodesL (expL E ((tn : Int) % 20)) := ⟨_, rfl⟩
    rw [← hK] at hrn
    have HKN := Lib.hid (show ∀ x ∈ K, isNode (cutG (grOf E) ((tn : Int) % 20)) x ∧ okI x from fun x hx => by
      rw [hK] at hx
      have h1 := (mem_nodesL (expL_nd HND.out)).1 hx
      have h1' := h1
      obtain ⟨k', u', h2, h3⟩ := h1'
      have h4 := smallE_ok (HSM.out _ (List.mem_filter.1 (show _ ∈ E.filter _ from (grOf_some (expL_nd HND.out)).1 h2)).1)
      refine ⟨by rw [← grOf_exp HND.out]; exact h1, ?_⟩
      rcases h3 with rfl | rfl
      · exact h4.1.1
      · exact h4.1.2.2)
    have HCARD := Lib.hid (show cntM p2 K K = N2 from cntM_card (nodup_up (by rw [hK]; exact nodesL_up _)) (fun q hq => by
      have h5 := prs_nodes HP2.out hq
      rw [hK]
      exact ⟨(mem_nodesL (expL_nd HND.out)).2 h5.1, (mem_nodesL (expL_nd HND.out)).2 h5.2⟩) HQN2.out)
    have HVAL := Lib.hid (show ∀ x y, isNode (cutG (grOf E) ((tn : Int) % 20)) x → (p2 ⟨x, y⟩).isSome = ((p ⟨x, y⟩).isSome && decide (((tn : Int) % 20) ≤ (p ⟨x, y⟩).getD 0)) ∧ ((p2 ⟨x, y⟩).isSome = true → (p2 ⟨x, y⟩).getD 0 = (p ⟨x, y⟩).getD 0) from fun x y hx => by
      have h5 := HP2.out
      rw [grOf_exp HND.out] at h5
      exact cut_val HP.out h5 (by unfold forever; omega) hx)
    obtain ⟨An, cn, hvn⟩ := rowE_form hrn.1
    obtain ⟨nn, hnn⟩ : ∃ n, n = K.length := ⟨_, rfl⟩
    rw [← hnn] at hvn
    have hnl : nn ≤ 24 := by have := nodesL_len (expL E ((tn : Int) % 20)); have h5 := HLL.out; rw [HNL.out] at h5; rw [hnn, hK]; omega
    subst hvn
    have HRN := Lib.hid hrn.1
    have HNN := Lib.hid hnn
    clear hE12 hK hrn hnn
    go_wp2
    go_loopw [79, 15] (fun y c wr => ∃ (i cn : Nat), i ≤ nn ∧ y = .int .i64 (i : Int) ∧ c = .int .i64 (cn : Int) ∧ cn = cntM p2 (K.take i) K ∧ Ext wN wr) (fun y _ _ => nn - (intOf y).toNat)
    case atStart => exact ⟨0, 0, by omega, rfl, rfl, rfl, ext_refl _⟩
    case round =>
      rename World => wr
      obtain ⟨i, cn, hi, rfl, rfl, hcn, hEr⟩ := hrel
      have HCN := Lib.hid hcn
      have HER := Lib.hid hEr
      clear hcn hEr
      have HRR := Lib.hid (rowE_ext HRN.out HER.out)
      by_cases hlt : i < nn
      · have hii : (i : Int) < (nn : Int) := by omega
        obtain ⟨x, hx⟩ : ∃ x, K[i]? = some x := ⟨_, List.getElem?_eq_getElem (by rw [← HNN.out]; exact hlt)⟩
        obtain ⟨gn, rfl, lgn⟩ := rowE_some HRR.out (fun e => by rw [e] at hx; simp at hx)
        have x0 := rowJ_cell HRR.out hx
        have HX := Lib.hid (And.intro (HKN.out x (List.mem_of_getElem? hx)) hx)
        clear hx
        go_wp2
        go_loopw [85, 15] (fun y c wn => ∃ (j cj : Nat), j ≤ nn ∧ y = .int .i64 (j : Int) ∧ c = .int .i64 (cj : Int) ∧ cj = cn + cntR p2 x (K.take j) ∧ Ext wN wn) (fun y _ _ => nn - (intOf y).toNat)
        case atStart => exact ⟨0, cn, by omega, rfl, rfl, rfl, HER.out⟩
        case round =>
          rename World => wn
          obtain ⟨j, cj, hj, rfl, rfl, hcj, hEn⟩ := hrel
          have HCJ := Lib.hid hcj
          have HEn := Lib.hid hEn
          clear hcj hEn x0 lgn
          have HRM := Lib.hid (rowE_ext HRN.out HEn.out)
          by_cases hlt2 : j < nn
          · have hjj : (j : Int) < (nn : Int) := by omega
            obtain ⟨y, hy⟩ : ∃ y, K[j]? = some y := ⟨_, List.getElem?_eq_getElem (by rw [← HNN.out]; exact hlt2)⟩
            obtain ⟨gn', hgn', lgn⟩ := rowE_some HRM.out (fun e => by rw [e] at hy; simp at hy)
            cases hgn'
            have y0 := rowJ_cell HRM.out hy
            have hyk := HKN.out y (List.mem_of_getElem? hy)
            obtain ⟨hst, hag⟩ := HVAL.out x y HX.out.1.1
            have hEa : Ext wN (wn.alloc (.cells #[.int .i64 x, .int .i64 y] 68)) := ext_trans HEn.out (ext_alloc (ext_refl _) _)
            have hl1 : (Instr.lookup 65 (.map (some qb)) (.agg #[.int .i64 x, .int .i64 y]) true).run Try.prog (wn.alloc (.cells #[.int .i64 x, .int .i64 y] 68)) = .ok (.tuple #[.int .i64 ((p ⟨x, y⟩).getD 0), .bool (p ⟨x, y⟩).isSome]) (wn.alloc (.cells #[.int .i64 x, .int .i64 y] 68)) := look2_G Try.underlying65 (mapG_ext HQN.out hEa) (x := ⟨x, y⟩) ⟨HX.out.1.2, hyk.2⟩
            have hl2 : (Instr.lookup 65 (.map (some q2)) (.agg #[.int .i64 x, .int .i64 y]) true).run Try.prog (wn.alloc (.cells #[.int .i64 x, .int .i64 y] 68)) = .ok (.tuple #[.int .i64 ((p2 ⟨x, y⟩).getD 0), .bool (p2 ⟨x, y⟩).isSome]) (wn.alloc (.cells #[.int .i64 x, .int .i64 y] 68)) := look2_G Try.underlying65 (mapG_ext HQN2.out hEa) (x := ⟨x, y⟩) ⟨HX.out.1.2, hyk.2⟩
            have HCT := Lib.hid (cntR_take (p := p2) (x := x) hy)
            have hcle : cj ≤ 1000 := by
              have h5 := HCJ.out
              have h6 := HCN.out
              have h7 := cntM_le p2 (K.take i) K
              have h8 := cntR_le p2 x (K.take j)
              rw [List.length_take] at h7 h8
              have h9 := HNN.out
              have h10 : min i K.length * K.length ≤ 24 * 24 := Nat.mul_le_mul (by omega) (by omega)
              omega
            have hwc : IntKind.i64.wrap ((cj : Int) + 1) = (cj : Int) + 1 := IntWalk.i64_in _ (by omega)
            have HEA := Lib.hid hEa
            clear hEa hcle
            obtain ⟨u, hu⟩ : ∃ u, u = (p ⟨x, y⟩).getD 0 := ⟨_, rfl⟩
            obtain ⟨th, hth⟩ : ∃ b, b = (p ⟨x, y⟩).isSome := ⟨_, rfl⟩
            obtain ⟨ag, hagg⟩ : ∃ u, u = (p2 ⟨x, y⟩).getD 0 := ⟨_, rfl⟩
            obtain ⟨st, hstt⟩ : ∃ b, b = (p2 ⟨x, y⟩).isSome := ⟨_, rfl⟩
            rw [← hu, ← hth] at hl1
            rw [← hagg, ← hstt] at hl2
            rw [← hagg, ← hstt, ← hu] at hag
            rw [← hstt, ← hth, ← hu] at hst
            rw [← hstt] at HCT
            clear hu hth hagg hstt hy hyk
            cases th with
            | false =>
              rw [Bool.false_and] at hst
              subst hst
              clear hag
              have HCT' := Lib.hid (show cj = cn + cntR p2 x (K.take (j + 1)) from by rw [HCT.out]; exact HCJ.out)
              go_wp2
              go_roundw
              case rel => exact ⟨j + 1, cj, by omega, by go_num, rfl, HCT'.out, HEA.out⟩
              case measure => simp [intOf]; omega
            | true =>
              rw [Bool.true_and] at hst
              by_cases hbu : ((tn : Int) % 20) ≤ u
              · rw [decide_eq_true hbu] at hst
                subst hst
                have hag' := hag rfl
                subst hag'
                clear hag
                have HCT' := Lib.hid (show cj + 1 = cn + cntR p2 x (K.take (j + 1)) from by rw [HCT.out, HCJ.out]; simp; omega)
                have hge : decide (ag ≥ ((tn : Int) % 20)) = true := decide_eq_true hbu
                go_wp2
                go_roundw
                case rel => exact ⟨j + 1, cj + 1, by omega, by go_num, by go_num, HCT'.out, HEA.out⟩
                case measure => simp [intOf]; omega
              · rw [decide_eq_false hbu] at hst
                subst hst
                clear hag
                have HCT' := Lib.hid (show cj = cn + cntR p2 x (K.take (j + 1)) from by rw [HCT.out]; exact HCJ.out)
                have hge : decide (u ≥ ((tn : Int) % 20)) = false := decide_eq_false hbu
                go_wp2
                go_roundw
                case rel => exact ⟨j + 1, cj, by omega, by go_num, rfl, HCT'.out, HEA.out⟩
                case measure => simp [intOf]; omega
          · have HJE := Lib.hid (show j = nn by omega)
            have HCF := Lib.hid (show cj = cntM p2 (K.take (i + 1)) K from by
              rw [cntM_take HX.out.2, HCJ.out, ← HCN.out]
              congr 2
              rw [HJE.out, HNN.out, List.take_length])
            have hnl2 : ¬ (j : Int) < (nn : Int) := by omega
            go_wp2
            go_roundw
            case rel => exact ⟨i + 1, cj, by omega, by go_num, rfl, HCF.out, HEn.out⟩
            case measure => simp [intOf]; omega
      · have HIE := Lib.hid (show i = nn by omega)
        have hnl1 : ¬ (i : Int) < (nn : Int) := by omega
        have HFIN := Lib.hid (show cn = N2 from by
          rw [← HCARD.out, HCN.out]
          congr 1
          rw [HIE.out, HNN.out, List.take_length])
        have hlen : ∀ ty, (Builtin.len_ #[65] ty #[.map (some q2)]).run Try.prog wr = .ok (.int .i64 (cn : Int)) wr := fun ty => by rw [HFIN.out]; exact len_G Try.underlying65 (mapG_ext HQN2.out HER.out)
        have HF := Lib.hid (ext_trans HEN.out HER.out)
        go_wp2
        refine bodyPost_ret (results_tmp rfl _ _ _) rfl ?_
        exact ⟨by simp, HF.out⟩
  · have hzb : decide (chk t = 0) = false := by simpa using hz
    go_wp2
    refine bodyPost_ret (results_tmp rfl _ _ _) rfl ?_
    exact ⟨rfl, HE5.out⟩
end Go.Proofs.Ytiabmdboacpmcaa
/- ReachExpires: behind a horizon just those pairs are left that last up to it, of nodes that have an edge still. No condition. -/
namespace Go.Proofs.Ytiabmdboacpmcaa
open Go.ChangeShapes Go.WideShapes Go.ChangeAt Go.WideMaps Go.WideElems Go.RowKit

set_option maxRecDepth 100000 in
theorem expires_lifted (os : Os) (started : os.Started) (H : Type) (enc : TypeId × Value → H) :
    ReturnsInHanded {} Try.checked os 14 .any (Rows.reachExpiresSpec.pre6 enc Try.prog Try.f14 Rows.reachExpiresRow.domain false) (Rows.reachExpiresSpec.post enc Try.prog Try.f14 false true false false) := by
  refine returnsInHanded_of_change_sized (C := Try.checked) own started (by kernel_rfl) Try.func14
    (ChangeSpec.witness6 (enc := enc) (C := Try.checked) false ⟨#[], #[.slice none 0 0, .slice none 0 0, .int .u8 0], []⟩ 8 (by kernel_rfl) (by kernel_rfl) (by kernel_rfl) (by kernel_rfl)) ?_
  intro W base args ds gs before hval0 hW _ hsz0 _
  clear hsz0
  have hval : ∀ (j : Nat) t v, Try.f14.params[j]? = some t → args[j]? = some v → Value.okWide Try.prog W .any base t v := hval0
  have hW' := hW
  obtain ⟨p, q, hA0, hV, rfl, hfz, hnd⟩ := hW
  have hA : DataW.TrodAll enc Try.prog W 0 (fun _ => true) true Try.f14.params.toList args.toList ds p := hA0
  rw [Try.params14] at hA hval
  obtain ⟨v0, vs0, d0, ds0, p0, q0, hargs, rfl, rfl, h0, r0⟩ := trodAll_cons hA
  obtain ⟨v1, vs1, d1, ds1, p1, q1, rfl, rfl, rfl, h1, r1⟩ := trodAll_cons r0
  obtain ⟨v2, vs2, d2, ds2, p2, q2, rfl, rfl, rfl, h2, r2⟩ := trodAll_cons r1
  obtain ⟨rfl, rfl, rfl⟩ := trodAll_nil r2
  obtain rfl : args = #[v0, v1, v2] := by cases args; simp_all
  obtain ⟨rfl, rfl⟩ := trodVars_none hV
  have lt0 : ∀ x ∈ p0, x.block < W.heap.size := by obtain ⟨m, hm⟩ := h0; exact DataW.trod_lt m _ _ _ hm
  obtain ⟨L0, ha0, hl0⟩ := open_nodes (hval 0 22 v0 rfl rfl) h0
  have lt1 : ∀ x ∈ p1, x.block < W.heap.size := by obtain ⟨m, hm⟩ := h1; exact DataW.trod_lt m _ _ _ hm
  obtain ⟨L1, ha1⟩ := open_acts (hval 1 60 v1 rfl rfl) h1
  obtain ⟨o2, rfl, rfl, rfl, w2⟩ := open_int Try.underlying5 (hval 2 5 v2 rfl rfl) h2
  have b2 : 0 ≤ o2 ∧ o2 ≤ 255 := bounds_u8 w2
  obtain ⟨t2, rfl⟩ := Int.eq_ofNat_of_zero_le b2.1
  clear hA0 hval0
  refine (expires_law v0 v1 L0 L1 t2 W ha0 ha1 (by omega)).mono fun e W' ⟨he, bel⟩ => ?_
  subst he
  have bel : Below W.heap.size W W' := bel
  exact ⟨_, rfl, _, _, _, [], _, [], hW', trodAll_mk1 (shut_bool Try.underlying4 _), (trodAll_cons_mk (Below.trod laidOut (by kernel_rfl) (of_decide_eq_true (by kernel_rfl)) h0 bel lt0) (trodAll_cons_mk (Below.trod laidOut (by kernel_rfl) (of_decide_eq_true (by kernel_rfl)) h1 bel lt1) (trodAll_cons_mk (shut_int Try.underlying5 w2) trodAll_mk0))), rfl, bel.frame _, fun h => by cases h⟩

theorem expires_holds : Rows.ReachExpiresSaid :=
  OpenClaim.holds_of_wide 14 Try.f14 rfl rfl rfl rfl rfl rfl rfl ⟨rfl, rfl, rfl, rfl, rfl⟩ rfl rfl rfl rfl rfl (by kernel_rfl) Try.func14 (by kernel_rfl)
    (of_decide_eq_true (by kernel_rfl)) (by unfold Func.isWrapper; first | (rw [if_pos (by decide +kernel)]; kernel_rfl) | (rw [if_neg (by decide +kernel)]; exact ⟨rfl, rfl⟩))
    (fun os started H enc _ => expires_lifted os started H enc)
#print axioms expires_holds
end Go.Proofs.Ytiabmdboacpmcaa
