/- joined; Join. -/
import Derived.Test.YtniggdaakiofeaaDoorSj
namespace Go.Proofs.YtniggdaakiofeaaDoor
open Go Go.RowKit Go.Sort
set_option maxHeartbeats 4000000

theorem tabV_parts {w : World} {vv rv : Value} {V : List ByteArray} {R : List (List Int)} (h : TabV w (.agg #[vv, rv]) V R) : RdS w vv V ∧ RdW w rv R := by
  obtain ⟨vv', rv', h1, h2, h3⟩ := h
  simp only [Value.agg.injEq, Array.mk.injEq, List.cons.injEq, and_true] at h1
  obtain ⟨rfl, rfl⟩ := h1
  exact ⟨h2, h3⟩
theorem heap_four (w : World) (o0 o1 o2 o3 : Obj) : ((((w.alloc o0).alloc o1).alloc o2).alloc o3).heap[w.heap.size]? = some o0 ∧ ((((w.alloc o0).alloc o1).alloc o2).alloc o3).heap[w.heap.size + 1]? = some o1 ∧ ((((w.alloc o0).alloc o1).alloc o2).alloc o3).heap[w.heap.size + 2]? = some o2 ∧ ((((w.alloc o0).alloc o1).alloc o2).alloc o3).heap[w.heap.size + 3]? = some o3 := by
  obtain ⟨h0, h1, h2⟩ := heap_three w o0 o1 o2
  have hE := ext_alloc (ext_refl (((w.alloc o0).alloc o1).alloc o2)) o3
  refine ⟨(ext_block hE (block_lt h0)).trans h0, (ext_block hE (block_lt h1)).trans h1, (ext_block hE (block_lt h2)).trans h2, ?_⟩
  have := heap_alloc_new (((w.alloc o0).alloc o1).alloc o2) o3
  simpa using this
/-- what is told of a var by two rows -/
def joinG (U V : List ByteArray) (x y : List Int) (v : ByteArray) : Int := max (valN U x v) (valN V y v)
theorem joinG_row (U V : List ByteArray) (x y : List Int) : rowOf (setS (U ++ V)) (joinG U V x y) = joinR U V x y := rfl
theorem eg77 (args : Array Value) (w : World) : (callFunc 77 args).run Tryd.prog w = .ok (.enter 77 args) w := enter_fn Tryd.func77 (by kernel_rfl) rfl args w
theorem joinedF_any (ba bx bb bz : Nat) (avv arv bvv brv xv yv : Value) (U V : List ByteArray) (R S : List (List Int)) (x y : List Int) (v : ByteArray) (w : World)
    (h1 : w.heap[ba]? = some (.cells #[avv, arv] 31 (0, 0))) (h2 : w.heap[bx]? = some (.cells #[xv] 41 (0, 0))) (h3 : w.heap[bb]? = some (.cells #[bvv, brv] 31 (0, 0))) (h4 : w.heap[bz]? = some (.cells #[yv] 41 (0, 0)))
    (ha : TabV w (.agg #[avv, arv]) U R) (hb : TabV w (.agg #[bvv, brv]) V S) (hx : RdI w xv x) (hy : RdI w yv y) (hU : RiseS U) (hV : RiseS V) (hu : U.length ≤ 1000000) (hm : V.length ≤ 1000000) (hlx : x.length = U.length) (hly : y.length = V.length) :
    Calls Tryd.prog 77 #[.string v, .pointer (some ⟨ba, 0, none⟩), .pointer (some ⟨bx, 0, none⟩), .pointer (some ⟨bb, 0, none⟩), .pointer (some ⟨bz, 0, none⟩)] w fun e w' => e = .returned (.int .i64 (joinG U V x y v)) ∧ Ext w w' := by
  have C1 := Lib.hid (fun w' (hE : Ext w w') => value_any (.agg #[avv, arv]) xv U R x v w' (tabV_ext ha hE) (rdI_ext hx hE) hU hu hlx)
  have C2 := Lib.hid (fun w' (hE : Ext w w') => value_any (.agg #[bvv, brv]) yv V S y v w' (tabV_ext hb hE) (rdI_ext hy hE) hV hm hly)
  obtain ⟨a1, a2⟩ := tabV_parts ha
  obtain ⟨a3, a4⟩ := tabV_parts hb
  obtain ⟨A1, c1, rfl⟩ := rdS_form a1
  obtain ⟨A2, c2, rfl⟩ := rdW_form a2
  obtain ⟨A3, c3, rfl⟩ := rdS_form a3
  obtain ⟨A4, c4, rfl⟩ := rdW_form a4
  obtain ⟨A5, c5, rfl⟩ := rdI_form hx
  obtain ⟨A6, c6, rfl⟩ := rdI_form hy
  have q0 : w.cell? ⟨ba, 0, none⟩ = some (.slice A1 U.length c1) := block_cell h1 0
  have q1 : w.cell? ⟨ba, 1, none⟩ = some (.slice A2 R.length c2) := block_cell h1 1
  have q2 : w.cell? ⟨bx, 0, none⟩ = some (.slice A5 x.length c5) := block_cell h2 0
  have q3 : w.cell? ⟨bb, 0, none⟩ = some (.slice A3 V.length c3) := block_cell h3 0
  have q4 : w.cell? ⟨bb, 1, none⟩ = some (.slice A4 S.length c4) := block_cell h3 1
  have q5 : w.cell? ⟨bz, 0, none⟩ = some (.slice A6 y.length c6) := block_cell h4 0
  have l0 := block_lt h1
  have l1 := block_lt h2
  have l2 := block_lt h3
  have l3 := block_lt h4
  obtain ⟨m1, hm1⟩ : ∃ m, m = valN U x v := ⟨_, rfl⟩
  obtain ⟨m2, hm2⟩ : ∃ m, m = valN V y v := ⟨_, rfl⟩
  have hg : joinG U V x y v = max m1 m2 := by rw [hm1, hm2]; rfl
  rw [hg]
  rw [← hm1] at C1
  rw [← hm2] at C2
  clear h1 h2 h3 h4 ha hb hx hy hU hV hlx hly a1 a2 a3 a4 hm1 hm2 hg
  go_enter Tryd.func77, Tryd.ntmps77
  go_wp2
  have hgc := cell_grown
  refine wp_region_free 10 [0, 1, 2, 3, 4, 5, 6, 7, 8, 9] [] (by kernel_rfl) (by kernel_rfl) ?_
  iterate 4 (refine wpLoose_step rfl (fun K hK => ?_); (try simp only [Oper.quietAt, Oper.quietUpon]); go_simp; first | (refine hK _ ?_; clear hK K) | (apply Exists.intro; refine ⟨fun p => ?_, hK _ ?_⟩; (go_at_call 47; exact C1.out _ (ext_grow (ext_refl _) _ _)); clear hK K))
  repeat (refine wpLoose_step rfl (fun K hK => ?_); (try simp only [Oper.quietAt, Oper.quietUpon]); go_simp; first | (refine hK _ ?_; clear hK K) | (apply Exists.intro; refine ⟨fun p => ?_, hK _ ?_⟩; (go_at_call 47; exact C2.out _ (ext_grow (ext_refl _) _ _)); clear hK K))
  refine wpLoose_nil (wpFresh_nil (fun w3 hE3 _ => ?_))
  have HE3 := Lib.hid hE3
  clear hE3 q0 q1 q2 q3 q4 q5 hgc
  simp only [List.drop_succ_cons, List.drop_zero]
  refine wpList_nil ?_
  go_wp2
  refine bodyPost_ret (results_tmp rfl _ _ _) rfl ?_
  exact ⟨rfl, HE3.out⟩

set_option maxRecDepth 100000 in
theorem joined_anyK (ok : Nat → Prop) (H p : Nat) (avv arv bvv brv xv yv : Value) (W U V : List ByteArray) (T R S : List (List Int)) (x y : List Int) (w : World) (hB : TabK ok H w p W T)
    (ha : TabV w (.agg #[avv, arv]) U R) (hb : TabV w (.agg #[bvv, brv]) V S) (hx : RdI w xv x) (hy : RdI w yv y) (hU : RiseS U) (hV : RiseS V) (hu : U.length ≤ 1000000) (hm : V.length ≤ 1000000) (hlx : x.length = U.length) (hly : y.length = V.length)
    (hok : ∀ b, w.heap.size ≤ b → ok b) (hH : H ≤ w.heap.size) (hokH : ∀ b, ok b → H ≤ b) (hw : W.length ≤ 1000000) (hr : T.length < 1000000) :
    Calls Tryd.prog 45 #[.pointer (some ⟨p, 0, none⟩), .agg #[avv, arv], .agg #[bvv, brv], xv, yv] w fun e w' => e = .returned (.tuple #[]) ∧ TabK ok H w' p W (T ++ [rowOf W (joinG U V x y)]) ∧ Upd (fun b => ok b ∨ b = p) w w' := by
  obtain ⟨h0, h1, h2, h3⟩ := heap_four w (.cells #[avv, arv] 31 (0, 0)) (.cells #[bvv, brv] 31 (0, 0)) (.cells #[xv] 41 (0, 0)) (.cells #[yv] 41 (0, 0))
  have hE : Ext w ((((w.alloc (.cells #[avv, arv] 31 (0, 0))).alloc (.cells #[bvv, brv] 31 (0, 0))).alloc (.cells #[xv] 41 (0, 0))).alloc (.cells #[yv] 41 (0, 0))) := ext_alloc (ext_alloc (ext_alloc (ext_alloc (ext_refl _) _) _) _) _
  have C := Lib.hid (row_anyK ok H p 77 #[.pointer (some ⟨w.heap.size, 0, none⟩), .pointer (some ⟨w.heap.size + 2, 0, none⟩), .pointer (some ⟨w.heap.size + 1, 0, none⟩), .pointer (some ⟨w.heap.size + 3, 0, none⟩)] eg77 W T (joinG U V x y) _ (tabK_ext hB hE) (fun w1 hE1 v _ => joinedF_any _ _ _ _ avv arv bvv brv xv yv U V R S x y v w1 ((ext_block hE1 (block_lt h0)).trans h0) ((ext_block hE1 (block_lt h2)).trans h2) ((ext_block hE1 (block_lt h1)).trans h1) ((ext_block hE1 (block_lt h3)).trans h3) (tabV_ext ha (ext_trans hE hE1)) (tabV_ext hb (ext_trans hE hE1)) (rdI_ext hx (ext_trans hE hE1)) (rdI_ext hy (ext_trans hE hE1)) hU hV hu hm hlx hly) (fun b hb => hok b (Nat.le_trans (ext_size hE) hb)) (Nat.le_trans hH (ext_size hE)) hokH hw hr)
  have HE := Lib.hid hE
  obtain ⟨a1, a2⟩ := tabV_parts ha
  obtain ⟨a3, a4⟩ := tabV_parts hb
  obtain ⟨A1, c1, rfl⟩ := rdS_form a1
  obtain ⟨A2, c2, rfl⟩ := rdW_form a2
  obtain ⟨A3, c3, rfl⟩ := rdS_form a3
  obtain ⟨A4, c4, rfl⟩ := rdW_form a4
  obtain ⟨A5, c5, rfl⟩ := rdI_form hx
  obtain ⟨A6, c6, rfl⟩ := rdI_form hy
  clear h0 h1 h2 h3 hE hB ha hb hx hy hU hV hlx hly a1 a2 a3 a4
  go_enter Tryd.func45, Tryd.ntmps45
  go_wp2_with (go_at_call 55; refine C.out.mono ?_; rintro e w1 ⟨rfl, hT1, hU1⟩; have HT1 := Lib.hid hT1; have HU1 := Lib.hid hU1; clear hT1 hU1)
  go_end0
  exact ⟨rfl, HT1.out, upd_trans (upd_of_ext HE.out) HU1.out (fun _ _ h => h)⟩
theorem joined_any (H p : Nat) (avv arv bvv brv xv yv : Value) (W U V : List ByteArray) (T R S : List (List Int)) (x y : List Int) (w : World) (hB : TabB H w p W T)
    (ha : TabV w (.agg #[avv, arv]) U R) (hb : TabV w (.agg #[bvv, brv]) V S) (hx : RdI w xv x) (hy : RdI w yv y) (hU : RiseS U) (hV : RiseS V) (hu : U.length ≤ 1000000) (hm : V.length ≤ 1000000) (hlx : x.length = U.length) (hly : y.length = V.length)
    (hp : H ≤ p) (hH : H ≤ w.heap.size) (hw : W.length ≤ 1000000) (hr : T.length < 1000000) :
    Calls Tryd.prog 45 #[.pointer (some ⟨p, 0, none⟩), .agg #[avv, arv], .agg #[bvv, brv], xv, yv] w fun e w' => e = .returned (.tuple #[]) ∧ TabB H w' p W (T ++ [rowOf W (joinG U V x y)]) ∧ Upd (fun b => H ≤ b) w w' :=
  (joined_anyK (fun b => H ≤ b) H p avv arv bvv brv xv yv W U V T R S x y w hB ha hb hx hy hU hV hu hm hlx hly (fun b hb => Nat.le_trans hH hb) hH (fun _ h => h) hw hr).mono fun e w' h => ⟨h.1, h.2.1, upd_mono h.2.2 (fun b _ hb => hb.elim id (fun e => e ▸ hp))⟩
end Go.Proofs.YtniggdaakiofeaaDoor
