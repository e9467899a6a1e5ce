/- Texts joined: Kd Kf. -/
import Derived.Test.YtiabmdboacpmcaaY23
import Derived.Test.YtiabmdboacpmcaaY22
import Derived.Shelf.Abstract
/- drop: walked. -/
namespace Go.Proofs.Ytiabmdboacpmcaa
open Go Go.RowKit Go.Sort Go.WideMaps Go.Maps
set_option maxHeartbeats 4000000

def DropTo (w0 : World) (L : Loc) (room h : Int) (E : Gr3) (F : Nat → Prop) (f : Bst) (k : Key) (w : World) (e : Ending) (w' : World) : Prop :=
  e = .returned (.tuple #[]) ∧ ∃ S', MidH w0 L room h (delG E k) S' (subF (delG E k)) F w' ∧ Best L f w' ∧ (∀ n, (S' n).isSome = true ↔ isNode (delG E k) n) ∧ Upd F w w'
theorem wpList_drop_N {P : Program} {k e : TypeId} {α β : Type} (K : KT P k α) (_E : ET P e β) (w : World) {ops : Array Oper} {rest : List Oper} {o : Oper} {a : Act} {Q : Exit → Act → World → Prop} (hg : o.guard = none) (m x : Operand) (t : TypeId) (hop : o.op = Op.call { callee := Callee.builtin Builtin.delete, args := #[m, x], argTypes := #[t, k] }) (ht : P.underlying t = some (.map k e)) (hm : a.eval m = .map none)
    (y : α) (hx : a.eval x = K.val y) (hy : K.ok y) (hK : wpList P ops Q rest (a.put o.dst (.tuple #[])) w) : wpList P ops Q (o :: rest) a w := by
  refine wpList_plain hg fun K' hK' => ?_
  unfold Oper.wp
  simp [execOp, hop, resolve, invoke, builtin, hm, hx, Maps.drop_nil K.law ht (K.key y hy) o.type, Result.andThen]
  exact hK' _ _ hK
set_option maxRecDepth 100000 in
theorem drop_any (w0 : World) (L : Loc) (room h : Int) (E : Gr3) (S : Int → Option Nat) (F : Nat → Prop) (f : Bst) (k : Key) (w : World)
    (H : MidH w0 L room h E S (subF E) F w) (hB : Best L f w) (hN : ∀ n, (S n).isSome = true ↔ isNode E n) (hk : ok3 k) :
    Calls Try.prog 76 #[ptr L.pf, k3 k] w (DropTo w0 L room h E F f k w) := by
  obtain ⟨W, hW⟩ : ∃ W, W = w.alloc (.cells #[.int .i64 k.a, .int .i64 k.b, .int .i64 k.c] 85) := ⟨_, rfl⟩
  have hE0 : Ext w W := by rw [hW]; exact ext_alloc (ext_refl _) _
  obtain ⟨bk, hbk⟩ : ∃ b, b = w.heap.size := ⟨_, rfl⟩
  have hK : W.heap[bk]? = some (.cells #[.int .i64 k.a, .int .i64 k.b, .int .i64 k.c] 85 (0, 0)) := by rw [hW, hbk]; exact heap_alloc_new _ _
  obtain ⟨F1, hF1⟩ : ∃ F1 : Nat → Prop, F1 = fun b => F b ∧ b < w.heap.size := ⟨_, rfl⟩
  have hbw : L.bb < w.heap.size := by obtain ⟨NB, hNB⟩ := hB; exact mapG_lt hNB
  have hM1 : MidH w0 L room h E S (subF E) F1 w := mid_own H hbw (fun b hb hF => by rw [hF1]; exact ⟨hF, hb⟩)
  have HM0 := Lib.hid (midH_ext hM1 hE0)
  have HB0 := Lib.hid (best_ext hB hE0)
  have HE0 := Lib.hid hE0
  have HK := Lib.hid hK
  have HF1 := Lib.hid hF1
  have HBK := Lib.hid hbk
  have HNB := Lib.hid (show ¬ F1 bk from by rw [hF1, hbk]; rintro ⟨_, h5⟩; omega)
  have HKO := Lib.hid hk
  have HND := Lib.hid hN
  obtain ⟨NE, hNE⟩ := (midH_ext hM1 hE0).edges
  have HNE := Lib.hid hNE
  have hpf := (midH_ext hM1 hE0).blk
  have q3 : (w.alloc (.cells #[.int .i64 k.a, .int .i64 k.b, .int .i64 k.c] 85)).cell? ⟨L.pf, 3, none⟩ = some (.map (some L.be)) := by rw [← hW]; exact block_cell hpf 3
  have l0 : L.pf < (w.alloc (.cells #[.int .i64 k.a, .int .i64 k.b, .int .i64 k.c] 85)).heap.size := by rw [← hW]; exact block_lt hpf
  have HW := Lib.hid hW
  clear H hB hN hk hW hE0 hK hbk hF1 hM1 hbw hNE hpf q3 l0
  simp only [k3]
  go_enter Try.func76, Try.ntmps76
  have hgc := cell_grown
  go_wp2
  rw [← HW.out, ← HBK.out]
  have hblk := HM0.out.blk
  have q3 := block_cell hblk 3
  have l0 := block_lt hblk
  have k0 := block_cell HK.out 0
  have k1 := block_cell HK.out 1
  have k2 := block_cell HK.out 2
  have lk := block_lt HK.out
  clear hblk
  refine wp_region_mix [] [0, 1, 2, 3, 4] [] [5] (by kernel_rfl) (by kernel_rfl) (fun _ _ d _ _ h => by cases d <;> exact h) ?_
  refine wpPre_nil ?_
  repeat (refine wpLoose_step rfl (fun K hK => ?_); (try simp only [Oper.quietAt, Oper.quietUpon]); go_simp; (refine hK _ ?_; clear hK K))
  refine wpLoose_nil (wpFresh_nil (fun w5 hE5 _ => ?_))
  try simp only [List.drop_succ_cons, List.drop_zero]
  have HE5 := Lib.hid hE5
  clear q3 l0 k0 k1 k2 lk hE5 hgc
  refine wpSeq_of_list [5] [_] _ _ rfl ?_
  refine wpList_drop_G (K := kK) (E := eI) _ rfl (.tmp 9) (.tmp 10) 95 rfl Try.underlying95 rfl (mapG_ext HNE.out HE5.out) k rfl HKO.out (fun w6 hP6 hg6 => ?_)
  have hU6 := upd_mono (upd_grown hg6) (fp' := fun b => b = L.be) (fun i _ e => (Option.some.inj e).symm)
  have hmid6 := mid_edges (E' := delG E k) (midH_ext HM0.out HE5.out) hU6 ⟨_, mapG_congr hP6 (fun z => rfl) rfl⟩
  have hbest6 : Best L f w6 := by
    obtain ⟨NB, hNB⟩ := HB0.out
    exact ⟨NB, hmid6.2 NB f (mapG_ext hNB HE5.out)⟩
  have hkbe : bk ≠ L.be := mapG_off (mapG_ext HNE.out HE5.out) ((ext_block HE5.out (block_lt HK.out)).trans HK.out)
  have hk6 := (hU6.block bk (ext_lt HE5.out (block_lt HK.out)) hkbe).trans ((ext_block HE5.out (block_lt HK.out)).trans HK.out)
  have hUw6 : Upd F1 w w6 := upd_trans (upd_of_ext (ext_trans HE0.out HE5.out)) hU6 (fun i hi e => by have e' : i = L.be := e; rw [e']; exact HM0.out.own.2.1)
  have HMID6 := Lib.hid hmid6.1
  have HBEST6 := Lib.hid hbest6
  have HK6 := Lib.hid hk6
  have HUW6 := Lib.hid hUw6
  clear hU6 hmid6 hbest6 hkbe hk6 hUw6 hP6 hg6
  have k0 := block_cell HK6.out 0
  have k1 := block_cell HK6.out 1
  have k2 := block_cell HK6.out 2
  have lk := block_lt HK6.out
  go_simp
  go_wp2_with fail
  refine (ends_any k w6).mono ?_
  rintro e w7 ⟨rfl, hE7⟩
  have HMID7 := Lib.hid (midH_ext HMID6.out hE7)
  have HBEST7 := Lib.hid (best_ext HBEST6.out hE7)
  have HK7 := Lib.hid ((ext_block hE7 (block_lt HK6.out)).trans HK6.out)
  have HUW7 := Lib.hid (upd_trans HUW6.out (upd_of_ext (fp := fun _ => False) hE7) (fun _ _ h => h.elim))
  clear hE7 k0 k1 k2 lk
  go_wp2
  go_loopw [13] (fun y wr => ∃ j : Nat, j ≤ 2 ∧ y = .int .i64 (j : Int) ∧ (∃ S1 sub1, MidH w0 L room h (delG E k) S1 sub1 F1 wr ∧ Best L f wr ∧ DelF E k ([k.a, k.c].take j) S1 sub1) ∧ wr.heap[bk]? = some (.cells #[.int .i64 k.a, .int .i64 k.b, .int .i64 k.c] 85 (0, 0)) ∧ Upd F1 w wr) (fun y _ => 2 - (intOf y).toNat)
  case atStart => exact ⟨0, by omega, rfl, ⟨S, subF E, HMID7.out, HBEST7.out, del_start HND.out⟩, HK7.out, HUW7.out⟩
  case round =>
    rename World => wi
    obtain ⟨j, hj, rfl, ⟨S1, sub1, hm1, hb1, he1⟩, hki, hui⟩ := hrel
    have HM1 := Lib.hid hm1
    have HB1 := Lib.hid hb1
    have HDL := Lib.hid he1
    have HKI := Lib.hid hki
    have HUI := Lib.hid hui
    clear hm1 hb1 he1 hki hui
    by_cases hlt : j < 2
    · have hji : (j : Int) < 2 := by omega
      obtain ⟨n, hnok, hix, htk⟩ : ∃ n : Int, okI n ∧ (∀ w, (Instr.index 78 (.agg #[.int .i64 k.a, .int .i64 k.c]) (.int .i64 (j : Int))).run Try.prog w = .ok (.int .i64 n) w) ∧ [k.a, k.c].take (j + 1) = [k.a, k.c].take j ++ [n] := by
        rcases (by omega : j = 0 ∨ j = 1) with rfl | rfl
        · exact ⟨k.a, HKO.out.1, fun w => index2 0 _ _ _ w (.inl ⟨rfl, rfl⟩), rfl⟩
        · exact ⟨k.c, HKO.out.2.2, fun w => index2 1 _ _ _ w (.inr ⟨rfl, rfl⟩), rfl⟩
      have HTK := Lib.hid htk
      have HNOK := Lib.hid hnok
      have hwj : IntKind.i64.wrap ((j : Int) + 1) = (j : Int) + 1 := IntWalk.i64_in _ (by omega)
      obtain ⟨NO, hNO⟩ := HM1.out.out
      have HNO := Lib.hid hNO
      obtain ⟨sv, hsv⟩ : ∃ sv, sv = S1 n := ⟨_, rfl⟩
      have hlk : ∀ (d : Nat) (os : Array Obj), (Instr.lookup 119 (.map (some L.bo)) (.int .i64 n) false).run Try.prog (grow (redrawn wi d) os) = .ok (.map sv) (grow (redrawn wi d) os) := fun d os => by
        have h3 := look_G Try.underlying119 (mapG_ext hNO (ext_grow (ext_refl _) d os)) (x := n) hnok
        rw [← hsv] at h3
        cases sv <;> exact h3
      have HSV := Lib.hid hsv
      have hblk := HM1.out.blk
      have q4 := block_cell hblk 4
      have l0 := block_lt hblk
      have k0 := block_cell HKI.out 0
      have k1 := block_cell HKI.out 1
      have k2 := block_cell HKI.out 2
      have lk := block_lt HKI.out
      have hgc := cell_grown
      clear hblk htk hnok hNO hsv
      go_wp2
      refine wp_region_mix [] [0, 1, 2, 3, 4, 5, 6] [] [7] (by kernel_rfl) (by kernel_rfl) (fun _ _ d _ _ h => by cases d <;> exact h) ?_
      refine wpPre_nil ?_
      repeat (refine wpLoose_step rfl (fun K hK => ?_); (try simp only [Oper.quietAt, Oper.quietUpon]); go_simp; (refine hK _ ?_; clear hK K))
      refine wpLoose_nil (wpFresh_nil (fun w8 hE8 _ => ?_))
      try simp only [List.drop_succ_cons, List.drop_zero]
      have HM8 := Lib.hid (midH_ext HM1.out hE8)
      have HB8 := Lib.hid (best_ext HB1.out hE8)
      have HK8 := Lib.hid ((ext_block hE8 (block_lt HKI.out)).trans HKI.out)
      have HU8 := Lib.hid (upd_trans HUI.out (upd_of_ext (fp := fun _ => False) hE8) (fun _ _ h => h.elim))
      have HNO8 := Lib.hid (mapG_ext HNO.out hE8)
      clear q4 l0 k0 k1 k2 lk hlk hgc hE8
      refine wpSeq_of_list [7] [_] _ _ rfl ?_
      -- what is done behind the delete
      cases sv with
      | none =>
        refine wpList_drop_N kK eB _ rfl (.tmp 21) (.tmp 22) 128 rfl Try.underlying128 rfl k rfl HKO.out ?_
        go_simp
        have hlk : (Instr.lookup 119 (.map (some L.bo)) (.int .i64 n) false).run Try.prog w8 = .ok (.map none) w8 := by
          have h3 := look_G Try.underlying119 HNO8.out (x := n) HNOK.out
          rw [← HSV.out] at h3
          exact h3
        have q4 := block_cell HM8.out.blk 4
        have l0 := block_lt HM8.out.blk
        go_wp2_with (first
          | (at_delete; refine wpList_drop_G (K := kI) (E := eM) _ rfl (.tmp 34) (.tmp 35) 119 rfl Try.underlying119 rfl HNO8.out n rfl HNOK.out (fun w9 hP9 hg9 => ?_))
          | go_in)
        have hU9 := upd_mono (upd_grown hg9) (fp' := fun b => b = L.bo) (fun i _ e => (Option.some.inj e).symm)
        have hm9 := mid_outDel HM8.out hU9 ⟨_, mapG_congr hP9 (fun z => rfl) rfl⟩
        have hS9 : sDel S1 n = S1 := by
          funext x
          unfold sDel
          by_cases e : x = n
          · rw [if_pos e, e, ← HSV.out]
          · rw [if_neg e]
        have hno : ¬ isNode (delG E k) n := fun hc => by
          have := (HDL.out.nodes n).2 ⟨node_delG hc, fun _ => hc⟩
          rw [← HSV.out] at this
          cases this
        have hd9 := del_go HDL.out hno
        have hm9' : MidH w0 L room h (delG E k) (sDel S1 n) (subDel sub1 n k) F1 w9 := mid_congr hm9.1 (fun x k' hx => by
          unfold subDel
          by_cases e : x = n
          · rw [e] at hx
            unfold sDel at hx
            rw [if_pos rfl] at hx
            cases hx
          · rw [if_neg e])
        have hb9 : Best L f w9 := by
          obtain ⟨NB, hNB⟩ := HB8.out
          exact ⟨NB, hm9.2 NB f hNB⟩
        have hk9 := (hU9.block bk (block_lt HK8.out) (mapG_off HNO8.out HK8.out)).trans HK8.out
        have hu9 : Upd F1 w w9 := upd_trans HU8.out hU9 (fun i _ e => by have e' : i = L.bo := e; rw [e']; exact HM8.out.own.2.2.1)
        have HREL := Lib.hid (And.intro hm9' (And.intro hb9 (And.intro hd9 (And.intro hk9 hu9))))
        clear hU9 hm9 hS9 hno hd9 hm9' hb9 hk9 hu9 hP9 hg9 q4 l0 hlk hix
        go_wp2
        go_roundw
        case rel => exact ⟨j + 1, by omega, by go_num, ⟨_, _, HREL.out.1, HREL.out.2.1, by rw [HTK.out]; exact HREL.out.2.2.1⟩, HREL.out.2.2.2.1, HREL.out.2.2.2.2⟩
        case measure => simp [intOf]; omega
      | some sb =>
        obtain ⟨NS, hNS⟩ := HM8.out.sub n sb HSV.out.symm
        have HNS := Lib.hid hNS
        clear hNS
        refine wpList_drop_G (K := kK) (E := eB) _ rfl (.tmp 21) (.tmp 22) 128 rfl Try.underlying128 rfl HNS.out k rfl HKO.out (fun w9 hP9 hg9 => ?_)
        obtain ⟨N9, hP9'⟩ : ∃ N9, MapS sb N9 (fun z => if z = k then none else sub1 n z) w9 := ⟨_, hP9⟩
        have hU9 := upd_mono (upd_grown hg9) (fp' := fun b => b = sb) (fun i _ e => (Option.some.inj e).symm)
        have hm9 := mid_subDel HM8.out HSV.out.symm hU9 ⟨_, hP9'⟩
        have hb9 : Best L f w9 := by
          obtain ⟨NB, hNB⟩ := HB8.out
          exact ⟨NB, hm9.2 NB f hNB⟩
        have hk9 := (hU9.block bk (block_lt HK8.out) (mapG_off HNS.out HK8.out)).trans HK8.out
        have hu9 : Upd F1 w w9 := upd_trans HU8.out hU9 (fun i _ e => by have e' : i = sb := e; rw [e']; exact HM8.out.own.2.2.2.2 n sb HSV.out.symm)
        have hno9 := mapG_upd HNO8.out hU9 (fun e => (HM8.out.sne n sb HSV.out.symm).2.1 e.symm)
        have hsub := mapG_congr hP9' (f' := subF (delG E k) n) (fun z => by have := del_sub HDL.out (by rw [← HSV.out]; rfl) z; unfold subDel at this; rw [if_pos rfl] at this; exact this) rfl
        have HZ := Lib.hid (mapG_zero hsub)
        have HM9 := Lib.hid hm9.1
        have HB9 := Lib.hid hb9
        have HK9 := Lib.hid hk9
        have HU9 := Lib.hid hu9
        have HNO9 := Lib.hid hno9
        have HS9 := Lib.hid hP9'
        have hlen : ∀ ty, (Builtin.len_ #[128] ty #[.map (some sb)]).run Try.prog w9 = .ok (.int .i64 (N9 : Int)) w9 := fun ty => len_G Try.underlying128 hP9'
        have hlk : (Instr.lookup 119 (.map (some L.bo)) (.int .i64 n) false).run Try.prog w9 = .ok (.map (some sb)) w9 := by
          have h3 := look_G Try.underlying119 hno9 (x := n) HNOK.out
          rw [← HSV.out] at h3
          exact h3
        have q4 := block_cell hm9.1.blk 4
        have l0 := block_lt hm9.1.blk
        clear hP9 hg9 hP9' hU9 hm9 hb9 hk9 hu9 hno9 hsub
        go_simp
        by_cases hz : N9 = 0
        · have hz' : (N9 : Int) = 0 := by omega
          have HNN := Lib.hid (del_none (HZ.out.1 hz))
          clear hz
          go_wp2_with (first
            | (at_delete; refine wpList_drop_G (K := kI) (E := eM) _ rfl (.tmp 34) (.tmp 35) 119 rfl Try.underlying119 rfl HNO9.out n rfl HNOK.out (fun w10 hP10 hg10 => ?_))
            | go_in)
          have hU10 := upd_mono (upd_grown hg10) (fp' := fun b => b = L.bo) (fun i _ e => (Option.some.inj e).symm)
          have hm10 := mid_outDel HM9.out hU10 ⟨_, mapG_congr hP10 (fun z => rfl) rfl⟩
          have hb10 : Best L f w10 := by
            obtain ⟨NB, hNB⟩ := HB9.out
            exact ⟨NB, hm10.2 NB f hNB⟩
          have hk10 := (hU10.block bk (block_lt HK9.out) (mapG_off HNO9.out HK9.out)).trans HK9.out
          have hu10 : Upd F1 w w10 := upd_trans HU9.out hU10 (fun i _ e => by have e' : i = L.bo := e; rw [e']; exact HM9.out.own.2.2.1)
          have HREL := Lib.hid (And.intro hm10.1 (And.intro hb10 (And.intro (del_go HDL.out HNN.out) (And.intro hk10 hu10))))
          clear hU10 hm10 hb10 hk10 hu10 hP10 hg10 q4 l0 hlk hlen hix hz'
          go_wp2
          go_roundw
          case rel => exact ⟨j + 1, by omega, by go_num, ⟨_, _, HREL.out.1, HREL.out.2.1, by rw [HTK.out]; exact HREL.out.2.2.1⟩, HREL.out.2.2.2.1, HREL.out.2.2.2.2⟩
          case measure => simp [intOf]; omega
        · have hz' : ¬ (N9 : Int) = 0 := by omega
          have HNN := Lib.hid (show isNode (delG E k) n from Classical.byContradiction fun hc => hz (HZ.out.2 (fun x => by
            cases hx : subF (delG E k) n x with
            | none => rfl
            | some c => exact absurd (del_some (by rw [hx]; rfl)) hc)))
          clear hz
          go_wp2
          go_roundw
          case rel => exact ⟨j + 1, by omega, by go_num, ⟨_, _, HM9.out, HB9.out, by rw [HTK.out]; exact del_stay HDL.out HNN.out⟩, HK9.out, HU9.out⟩
          case measure => simp [intOf]; omega
    · obtain rfl : j = 2 := by omega
      obtain ⟨h1, h2⟩ := del_final HDL.out
      have HF := Lib.hid (show DropTo w0 L room h E F f k w (.returned (.tuple #[])) wi from ⟨rfl, S1, mid_own (mid_congr HM1.out h2) (by obtain ⟨NB, hNB⟩ := HB1.out; exact mapG_lt hNB) (fun b _ hf => by rw [HF1.out] at hf; exact hf.1), HB1.out, h1, upd_mono HUI.out (fun b _ hf => by rw [HF1.out] at hf; exact hf.1)⟩)
      clear h1 h2
      go_wp2
      go_end0
      exact HF.out
end Go.Proofs.Ytiabmdboacpmcaa
/- Places behind a horizon: the closure of Expire, maps.DeleteFunc. -/
namespace Go.Proofs.Ytiabmdboacpmcaa
open Go Go.RowKit Go.Sort Go.WideMaps Go.Maps
set_option maxHeartbeats 4000000

def goneB (h : Int) (S : Int → Option Nat) (x : Key) (u : Int) : Bool := decide (u < h) || (S x.a).isNone || (S x.b).isNone
theorem egEx (args : Array Value) (w : World) : (callFunc 78 args).run Try.prog w = .ok (.enter 78 args) w := enter_fn Try.func78 (by kernel_rfl) rfl args w
set_option maxRecDepth 100000 in
theorem expc_any (L : Loc) (room h : Int) (S : Int → Option Nat) (NO bf : Nat) (x : Key) (u : Int) (w : World) (hf : w.heap[bf]? = some (.cells #[ptr L.pf] 61 (0, 0)))
    (hblk : w.heap[L.pf]? = some (.cells #[ptr L.pm, .int .i64 room, .int .i64 h, .map (some L.be), .map (some L.bo), .map (some L.bb)] 122 (0, 0))) (hO : MapO L.bo NO (fun n => (S n).map some) w) (hx : ok3 x) :
    Calls Try.prog 78 #[k3 x, .int .i64 u, ptr bf] w fun e w' => e = .returned (.bool (goneB h S x u)) ∧ Ext w w' := by
  obtain ⟨xa, xb, xc⟩ := x
  obtain ⟨W, hW⟩ : ∃ W, W = w.alloc (.cells #[.int .i64 xa, .int .i64 xb, .int .i64 xc] 124) := ⟨_, rfl⟩
  have hE0 : Ext w W := by rw [hW]; exact ext_alloc (ext_refl _) _
  obtain ⟨bx, hbx⟩ : ∃ b, b = w.heap.size := ⟨_, rfl⟩
  have hX : W.heap[bx]? = some (.cells #[.int .i64 xa, .int .i64 xb, .int .i64 xc] 124 (0, 0)) := by rw [hW, hbx]; exact heap_alloc_new _ _
  obtain ⟨sa, hsa⟩ : ∃ s, s = S xa := ⟨_, rfl⟩
  obtain ⟨sb, hsb⟩ : ∃ s, s = S xb := ⟨_, rfl⟩
  have hlka : ∀ (d : Nat) (os : Array Obj), (Instr.lookup 119 (.map (some L.bo)) (.int .i64 xa) false).run Try.prog (grow (redrawn W d) os) = .ok (.map sa) (grow (redrawn W d) os) := fun d os => by
    have h3 := look_G Try.underlying119 (mapG_ext hO (ext_trans hE0 (ext_grow (ext_refl _) d os))) (x := xa) hx.1
    simp only [← hsa] at h3
    cases sa <;> exact h3
  have hlkb : ∀ (d : Nat) (os : Array Obj), (Instr.lookup 119 (.map (some L.bo)) (.int .i64 xb) false).run Try.prog (grow (redrawn W d) os) = .ok (.map sb) (grow (redrawn W d) os) := fun d os => by
    have h3 := look_G Try.underlying119 (mapG_ext hO (ext_trans hE0 (ext_grow (ext_refl _) d os))) (x := xb) hx.2.1
    simp only [← hsb] at h3
    cases sb <;> exact h3
  have hea := fun w => eql_nil sa w
  have heb := fun w => eql_nil sb w
  have HR := Lib.hid (show goneB h S ⟨xa, xb, xc⟩ u = (decide (u < h) || sa.isNone || sb.isNone) from by unfold goneB; simp only; rw [← hsa, ← hsb])
  have HE0 := Lib.hid hE0
  have HW := Lib.hid (And.intro hW hbx)
  have q0 := block_cell ((ext_block hE0 (block_lt hf)).trans hf) 0
  have f0 := block_lt ((ext_block hE0 (block_lt hf)).trans hf)
  have p2 := block_cell ((ext_block hE0 (block_lt hblk)).trans hblk) 2
  have p4 := block_cell ((ext_block hE0 (block_lt hblk)).trans hblk) 4
  have l0 := block_lt ((ext_block hE0 (block_lt hblk)).trans hblk)
  have x0 := block_cell hX 0
  have x1 := block_cell hX 1
  have lx := block_lt hX
  obtain ⟨r, hr⟩ : ∃ r, r = goneB h S ⟨xa, xb, xc⟩ u := ⟨_, rfl⟩
  rw [← hr] at HR ⊢
  clear hf hblk hO hx hW hE0 hbx hX hsa hsb hr
  simp only [k3]
  by_cases h1 : u < h
  · have hd1 : decide (u < h) = true := decide_eq_true h1
    have HV := Lib.hid (show r = true by rw [HR.out, hd1]; rfl)
    go_enter Try.func78, Try.ntmps78
    have hgc := cell_grown
    go_wp2
    rw [← HW.out.1, ← HW.out.2]
    refine wp_region_free 26 [0, 1, 2, 3, 4, 5, 6, 7, 8, 9, 10, 11, 12, 13, 14, 15, 16, 17, 18, 19, 20, 21, 22, 23, 24, 25] [] (by kernel_rfl) (by kernel_rfl) ?_
    repeat (refine wpLoose_step rfl (fun K hK => ?_); (try simp only [Oper.quietAt, Oper.quietUpon]); go_simp; (refine hK _ ?_; clear hK K))
    refine wpLoose_nil (wpFresh_nil (fun w2 hE2 _ => ?_))
    simp only [List.drop_succ_cons, List.drop_zero]
    have HF := Lib.hid (ext_trans HE0.out hE2)
    clear hE2 hgc hd1
    go_wp2
    refine bodyPost_ret (results_tmp rfl _ _ _) rfl ?_
    exact ⟨by rw [HV.out]; rfl, HF.out⟩
  · have hd1 : decide (u < h) = false := decide_eq_false h1
    cases sa with
    | none =>
      have HV := Lib.hid (show r = true by rw [HR.out, hd1]; rfl)
      go_enter Try.func78, Try.ntmps78
      have hgc := cell_grown
      go_wp2
      rw [← HW.out.1, ← HW.out.2]
      refine wp_region_free 26 [0, 1, 2, 3, 4, 5, 6, 7, 8, 9, 10, 11, 12, 13, 14, 15, 16, 17, 18, 19, 20, 21, 22, 23, 24, 25] [] (by kernel_rfl) (by kernel_rfl) ?_
      repeat (refine wpLoose_step rfl (fun K hK => ?_); (try simp only [Oper.quietAt, Oper.quietUpon]); go_simp; (refine hK _ ?_; clear hK K))
      refine wpLoose_nil (wpFresh_nil (fun w2 hE2 _ => ?_))
      simp only [List.drop_succ_cons, List.drop_zero]
      have HF := Lib.hid (ext_trans HE0.out hE2)
      clear hE2 hgc hd1
      go_wp2
      refine bodyPost_ret (results_tmp rfl _ _ _) rfl ?_
      exact ⟨by rw [HV.out]; rfl, HF.out⟩
    | some sa =>
      have HV := Lib.hid (show r = sb.isNone by rw [HR.out, hd1]; rfl)
      go_enter Try.func78, Try.ntmps78
      have hgc := cell_grown
      go_wp2
      rw [← HW.out.1, ← HW.out.2]
      refine wp_region_free 26 [0, 1, 2, 3, 4, 5, 6, 7, 8, 9, 10, 11, 12, 13, 14, 15, 16, 17, 18, 19, 20, 21, 22, 23, 24, 25] [] (by kernel_rfl) (by kernel_rfl) ?_
      repeat (refine wpLoose_step rfl (fun K hK => ?_); (try simp only [Oper.quietAt, Oper.quietUpon]); go_simp; (refine hK _ ?_; clear hK K))
      refine wpLoose_nil (wpFresh_nil (fun w2 hE2 _ => ?_))
      simp only [List.drop_succ_cons, List.drop_zero]
      have HF := Lib.hid (ext_trans HE0.out hE2)
      clear hE2 hgc hd1
      go_wp2
      refine bodyPost_ret (results_tmp rfl _ _ _) rfl ?_
      exact ⟨by rw [HV.out]; rfl, HF.out⟩
/-- what is left of places -/
def leftB (h : Int) (S : Int → Option Nat) (f : Bst) : Bst := fun x => match f x with | some u => if goneB h S x u = true then none else some u | none => none
def leftD (h : Int) (S : Int → Option Nat) (f : Bst) (done : List Key) : Bst := fun x => if x ∈ done then leftB h S f x else f x
theorem leftD_nil (h : Int) (S : Int → Option Nat) (f : Bst) : leftD h S f [] = f := by
  funext x
  unfold leftD
  rw [if_neg (by simp)]
theorem leftD_keep {h : Int} {S : Int → Option Nat} {f : Bst} {done : List Key} {x : Key} {u : Int} (hx : f x = some u) (hg : goneB h S x u = false) (z : Key) : leftD h S f (done ++ [x]) z = leftD h S f done z := by
  unfold leftD
  by_cases e : z = x
  · subst e
    have h1 : leftB h S f z = some u := by unfold leftB; rw [hx]; simp only; rw [if_neg (by rw [hg]; decide)]
    rw [if_pos (by simp), h1]
    split
    · rfl
    · exact hx.symm
  · simp [e]
theorem leftD_drop {h : Int} {S : Int → Option Nat} {f : Bst} {done : List Key} {x : Key} {u : Int} (hx : f x = some u) (hg : goneB h S x u = true) (z : Key) : leftD h S f (done ++ [x]) z = if z = x then none else leftD h S f done z := by
  unfold leftD
  by_cases e : z = x
  · subst e
    rw [if_pos (by simp), if_pos rfl]
    unfold leftB
    rw [hx]
    simp only
    rw [if_pos hg]
  · simp [e]
theorem leftD_all {h : Int} {S : Int → Option Nat} {f : Bst} {done : List Key} (hall : ∀ x, (leftD h S f done x).isSome = true → x ∈ done) : leftD h S f done = leftB h S f := by
  funext x
  by_cases hm : x ∈ done
  · unfold leftD; rw [if_pos hm]
  · have h1 : leftD h S f done x = f x := by unfold leftD; rw [if_neg hm]
    cases hx : f x with
    | none =>
      rw [h1, hx]
      unfold leftB
      rw [hx]
    | some u => exact absurd (hall x (by rw [h1, hx]; rfl)) hm
set_option maxRecDepth 100000 in
theorem delf_any (L : Loc) (room h : Int) (S : Int → Option Nat) (NO NP bf : Nat) (f : Bst) (w : World) (hP : MapP L.bb NP f w) (hf : w.heap[bf]? = some (.cells #[ptr L.pf] 61 (0, 0)))
    (hblk : w.heap[L.pf]? = some (.cells #[ptr L.pm, .int .i64 room, .int .i64 h, .map (some L.be), .map (some L.bo), .map (some L.bb)] 122 (0, 0))) (hO : MapO L.bo NO (fun n => (S n).map some) w) (hne : L.bo ≠ L.bb) :
    Calls Try.prog 77 #[.map (some L.bb), .func (.func 78) #[] #[ptr bf]] w fun e w' => e = .returned (.tuple #[]) ∧ (∃ N, MapP L.bb N (leftB h S f) w') ∧ Upd (fun b => b = L.bb) w w' := by
  have HP := Lib.hid hP
  have HFB := Lib.hid hf
  have HBLK := Lib.hid hblk
  have HO := Lib.hid hO
  have HNE := Lib.hid hne
  have eg := egEx
  clear hf hblk hO hne hP
  go_enter Try.func77, Try.ntmps77
  go_wp2_with (first
    | (at_range; refine wpList_range_G _ rfl _ _ rfl Try.underlying120 rfl HP.out ?_; intro w2 r hr0; have HLR := Lib.hid hr0; clear hr0; intro hrng hE2 hs2)
    | go_in)
  have HRN := Lib.hid hrng
  have HE2 := Lib.hid hE2
  clear hrng hE2 hs2
  go_simp
  go_loopw [] (fun wn => ∃ (done : List Key) (N : Nat), RngG kP eI L.bb r N (leftD h S f done) done wn ∧ Upd (fun b => b = L.bb) w wn) (fun wn => wn.rangeLeft L.bb r)
  case atStart => exact ⟨[], NP, by rw [leftD_nil]; exact HRN.out, upd_of_ext HE2.out⟩
  case round =>
    rename World => wn
    obtain ⟨done, NN, hR, hU⟩ := hrel
    have HR := Lib.hid hR
    have HU := Lib.hid hU
    clear hR hU
    go_wp2_with (first
      | (at_next; refine wpList_next_G wn rfl _ rfl rfl HR.out ?_ ?_)
      | go_in)
    · intro hall
      have HF := Lib.hid (show (∃ N, MapP L.bb N (leftB h S f) wn) ∧ Upd (fun b => b = L.bb) w wn from ⟨⟨NN, by rw [← leftD_all hall]; exact rngG_map HR.out⟩, HU.out⟩)
      clear hall
      go_wp2
      go_end0
      exact ⟨rfl, HF.out.1, HF.out.2⟩
    · intro x lasts w3 hfx hnx hR3 hlt3 hg3 hs3 hent
      rw [show kP.val x = .agg #[.int .i64 x.a, .int .i64 x.b, .int .i64 x.c] from rfl, show eI.val lasts = .int .i64 lasts from rfl] at hent ⊢
      have hfx' : f x = some lasts := by
        unfold leftD at hfx
        rw [if_neg hnx] at hfx
        exact hfx
      have hok : ok3 x := (mapG_out (rngG_map HR.out) hfx).1
      obtain ⟨xa, xb, xc⟩ := x
      have hU3 := upd_grown hg3
      have hrW : w.heap.size ≤ r := by rw [HLR.out]; exact Nat.le_refl _
      have hrb : r ≠ L.bb := rngG_ne HR.out
      obtain ⟨wa, hwa⟩ : ∃ x', x' = w3.alloc (.cells #[.int .i64 xa, .int .i64 xb, .int .i64 xc] 124) := ⟨_, rfl⟩
      have hEa : Ext w3 wa := by rw [hwa]; exact ext_alloc (ext_refl _) _
      obtain ⟨bx, hbx⟩ : ∃ b, b = w3.heap.size := ⟨_, rfl⟩
      have hxa : wa.heap[bx]? = some (.cells #[.int .i64 xa, .int .i64 xb, .int .i64 xc] 124 (0, 0)) := by rw [hwa, hbx]; exact heap_alloc_new _ _
      have hUa : Upd (fun b => b = L.bb) w wa := upd_trans (upd_trans HU.out hU3 (fun j hj e => absurd hj (by have h5 : r = j := Option.some.inj e; omega))) (upd_of_ext (fp := fun _ => False) hEa) (fun _ _ h => h.elim)
      have HUA := Lib.hid hUa
      have HRA := Lib.hid (rngG_ext hR3 hEa)
      have HLA := Lib.hid (show wa.rangeLeft L.bb r < wn.rangeLeft L.bb r by rw [left_ext hR3 hEa]; exact hlt3)
      have HXA := Lib.hid hxa
      have HFX := Lib.hid hfx'
      have HNX := Lib.hid hnx
      have HOK := Lib.hid hok
      have HRB := Lib.hid hrb
      have hba := (hUa.block L.pf (block_lt HBLK.out) (mapG_off HP.out HBLK.out)).trans HBLK.out
      have hfa := (hUa.block bf (block_lt HFB.out) (mapG_off HP.out HFB.out)).trans HFB.out
      have hoa := mapG_upd HO.out hUa HNE.out
      have HC := Lib.hid (expc_any L room h S NO bf ⟨xa, xb, xc⟩ lasts wa hfa hba hoa hok)
      obtain ⟨gone, hgone⟩ : ∃ g, g = goneB h S ⟨xa, xb, xc⟩ lasts := ⟨_, rfl⟩
      rw [← hgone] at HC
      have HG := Lib.hid hgone
      have HWB := Lib.hid (And.intro hwa hbx)
      clear hfx hfx' hnx hR3 hlt3 hg3 hs3 hU3 hrW hrb hEa hxa hUa hba hfa hoa hok hgone hwa hbx
      go_wp2_with fail
      rw [← HWB.out.1, ← HWB.out.2]
      have x0 := block_cell HXA.out 0
      have x1 := block_cell HXA.out 1
      have x2 := block_cell HXA.out 2
      have lx := block_lt HXA.out
      go_wp2_with (go_at_fn 78; refine HC.out.mono ?_; rintro e w4 ⟨rfl, hE4⟩; have HE4 := Lib.hid hE4; clear hE4; refine halt_here ?_)
      refine go_on ?_
      have HR4 := Lib.hid (rngG_ext HRA.out HE4.out)
      have HL4 := Lib.hid (show w4.rangeLeft L.bb r < wn.rangeLeft L.bb r by rw [left_ext HRA.out HE4.out]; exact HLA.out)
      have HU4 := Lib.hid (upd_trans HUA.out (upd_of_ext (fp := fun _ => False) HE4.out) (fun _ _ h => h.elim))
      have hx4 := (ext_block HE4.out (block_lt HXA.out)).trans HXA.out
      clear x0 x1 x2 lx
      have x0 := block_cell hx4 0
      have x1 := block_cell hx4 1
      have x2 := block_cell hx4 2
      have lx := block_lt hx4
      clear hx4
      cases gone with
      | false =>
        have HR5 := Lib.hid (show RngG kP eI L.bb r NN (leftD h S f (done ++ [⟨xa, xb, xc⟩])) (done ++ [⟨xa, xb, xc⟩]) w4 from by rw [show leftD h S f (done ++ [⟨xa, xb, xc⟩]) = leftD h S f done from funext (leftD_keep HFX.out HG.out.symm)]; exact HR4.out)
        go_wp2
        go_roundw
        case rel => exact ⟨_, _, HR5.out, HU4.out⟩
        case measure => exact HL4.out
      | true =>
        go_wp2_with (first
          | (at_delete; refine wpList_dropR_G (K := kP) (E := eI) _ rfl (.tmp 17) (.tmp 18) 120 rfl Try.underlying120 rfl HR4.out ⟨xa, xb, xc⟩ rfl HOK.out (by simp) (fun w5 hR5 hl5 hg5 => ?_))
          | go_in)
        have HR5 := Lib.hid (show ∃ N, RngG kP eI L.bb r N (leftD h S f (done ++ [⟨xa, xb, xc⟩])) (done ++ [⟨xa, xb, xc⟩]) w5 from ⟨_, by rw [show leftD h S f (done ++ [⟨xa, xb, xc⟩]) = fun z => if z = ⟨xa, xb, xc⟩ then none else leftD h S f done z from funext (leftD_drop HFX.out HG.out.symm)]; exact hR5⟩)
        have HL5 := Lib.hid (Nat.lt_of_le_of_lt hl5 HL4.out)
        have HU5 := Lib.hid (upd_trans HU4.out (upd_mono (upd_grown hg5) (fp' := fun b => b = L.bb) (fun i _ e => (Option.some.inj e).symm)) (fun _ _ h => h))
        clear hR5 hl5 hg5 x0 x1 x2 lx
        rw [show ∀ (a : Act) (v : Value), a.put none v = a from fun _ _ => rfl]
        go_roundw
        case rel =>
          obtain ⟨N5, h5⟩ := HR5.out
          exact ⟨_, N5, h5, HU5.out⟩
        case measure => exact HL5.out
end Go.Proofs.Ytiabmdboacpmcaa
