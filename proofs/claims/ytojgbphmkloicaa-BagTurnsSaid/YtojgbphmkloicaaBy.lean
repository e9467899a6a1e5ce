/- slices.AppendSeq, Collect over maps.Keys. -/
import Derived.Test.YtojgbphmkloicaaBx
namespace Go.Proofs.Ytojgbphmkloicaa
open Go Go.RowKit Go.Sort Go.Shelf
set_option maxHeartbeats 1000000
attribute [local go_sem] Oper.semAt_some

def KeysOf (f : Key → Option Int) (xs : List Key) : Prop := xs.Nodup ∧ ∀ x, x ∈ xs ↔ (f x).isSome = true
theorem keys_seq (n m Bm N : Nat) (f : Key → Option Int) (w : World) (hbm : w.heap[Bm]? = some (.cells #[.map (some m)] 52 (0, 0))) (hM : MapC m N f w) :
    SeqStopsK Fence.wide n Try.prog 30 #[.pointer (some ⟨Bm, 0, none⟩)] (fun x : Key => #[k3 x]) KeepsWalks (KeysOf f) (fun _ => True) N w := by
  intro l J Jx W hW hJ _ hY h0
  have hE : Ext w W := hW
  refine callsIn_wide.2 ?_
  refine (keys1_any l Bm m N f J Jx W hJ ((ext_block hE (block_lt hbm)).trans hbm) (mapG_ext hM hE) (fun pre x W1 h1 h2 => yield_wide (hY pre x W1 h1 h2)) h0).mono ?_
  rintro e W' ⟨h1, ⟨xs, h2, h3, h4⟩ | ⟨pre, h3⟩⟩
  · exact ⟨h1, .inl ⟨xs, ⟨h2, h3⟩, h4⟩⟩
  · exact ⟨h1, .inr ⟨pre, trivial, h3⟩⟩
theorem wpListIn_append {F : Fence} {n : Nat} {P : Program} {t : TypeId} {ops : Array Oper} {rest : List Oper} {o : Oper} {a : Act} {w : World} {Q : Exit → Act → World → Prop} (hgd : o.guard = none) (s x : Operand) (ho : o.op = .call { callee := .builtin .append, args := #[s, x], argTypes := #[t, t] })
    (sv xv : Value) (hs : a.eval s = sv) (hx : a.eval x = xv) (R : Value → World → Prop) (hr : ∃ v' w', (Builtin.append_ #[t, t] o.type #[sv, xv]).run P w = .ok v' w' ∧ R v' w')
    (h : ∀ v' w', R v' w' → wpListIn F n P ops Q rest (a.put o.dst v') w') : wpListIn F n P ops Q (o :: rest) a w := by
  refine wpListIn_plain hgd fun K hK => ?_
  obtain ⟨v', w', hrun, hR⟩ := hr
  unfold Oper.wpIn
  refine ⟨?_, ?_⟩
  · simp [Oper.about, ho, resolve, Target.leads, Sem.run_pure]
  · rw [Oper.semAt_plain F _ _ (by rw [ho]; intro c hc'; cases hc')]
    simp [execOp, ho, resolve, invoke, builtin, hs, hx, hrun, Result.andThen]
    exact hK _ _ (h v' w' hR)
def CollI (w : World) (pre : List Key) (W : World) : Prop := ∃ v, W.heap[w.heap.size]? = some (.cells #[v] 56 (0, 0)) ∧ rowF elK w.heap.size pre v W
theorem collI_own (w : World) : Own (CollI w) := fun s A B row hs hg hr => by
  obtain ⟨v, h1, h2⟩ := hs
  refine ⟨v, (grownBy_keeps_cells hg hr h1 rfl).trans h1, rowE_upd h2.1 (upd_grown hg) (fun b hb e => ?_), h2.2⟩
  obtain ⟨o, h3, h4⟩ := hr b e
  obtain ⟨_, cur, h5⟩ := rowE_block h2.1 hb
  rw [h3] at h5
  cases h5
  cases h4
def AccI (w : World) (pre : List Key) (W : World) : Prop := CollI w pre W ∧ Below w.heap.size w W
theorem accI_own (w : World) (B : Nat) (hB : w.heap.size ≤ B) : OwnFrom B (AccI w) := OwnFrom.and (Own.from (collI_own w) _) (ownFrom_below (Nat.le_refl _) hB)
def AccA (Bm bx : Nat) (x : Key) (a' : Act) (W : World) : Prop :=
  ∃ p, a' = { tmps := #[.slice none 0 0, .func (.func 30) #[] #[.pointer (some ⟨Bm, 0, none⟩)], .pointer (some ⟨bx, 0, none⟩), undef, .slice none 0 0, .pointer (some ⟨p, 0, none⟩), .func (.func 30) #[] #[.pointer (some ⟨Bm, 0, none⟩)], k3 x, undef, undef, undef, undef, undef], defers := [] } ∧ W.heap[p]? = some (.cells #[.int .i64 x.a, .int .i64 x.b, .int .i64 x.c] 36 (0, 0))
theorem accA_own (Bm bx B : Nat) (x : Key) (a' : Act) : OwnFrom B (fun (_ : Unit) W => AccA Bm bx x a' W) := fun s W W' row hs hg hr => by
  obtain ⟨p, h1, h2⟩ := hs
  exact ⟨p, h1, (grownBy_keeps_cells hg (fun r e => (hr r e).2) h2 rfl).trans h2⟩

theorem appendSeq_any (m Bm N : Nat) (f : Key → Option Int) (w : World) (hbm : w.heap[Bm]? = some (.cells #[.map (some m)] 52 (0, 0))) (hM : MapC m N f w) (hm : N ≤ 100000) :
    Calls Try.prog 33 #[.slice none 0 0, .func (.func 30) #[] #[.pointer (some ⟨Bm, 0, none⟩)]] w fun e w' => ∃ v' xs, e = .returned v' ∧ KeysOf f xs ∧ rowF elK w.heap.size xs v' w' ∧ Ext w w' := by
  have HB1 := Lib.hid hbm
  have HM := Lib.hid hM
  clear hbm hM
  refine (callsIn_wide (n := 8)).1 ?_
  refine callsIn_of_wp_marks Try.func33 rfl trivial ?_ rfl
  simp only [Try.ntmps33, List.size_toArray, List.length_cons, List.length_nil, Nat.reduceAdd, Nat.reduceSub, Array.replicate_succ, Array.replicate_zero, List.push_toArray, List.append_toArray, List.nil_append, List.cons_append]
  gi_wp2
  have hE1 := ext_alloc (ext_refl w) (.cells #[.slice none 0 0] 56)
  have HM1 := Lib.hid (mapG_ext HM.out hE1)
  have HB2 := Lib.hid ((ext_block hE1 (block_lt HB1.out)).trans HB1.out)
  clear hE1
  refine wpIn_rangeFunc_ownH (F := Fence.wide) rfl (by decide) (gf := 30) rfl trivial (enters_of Try.func30 (by kernel_rfl) rfl)
    (keys_seq _ m Bm N f _ HB2.out HM1.out) (fun h k => walksK_t h k) (fun W l o o' hl h h2 h3 => walksK_b (w := w.alloc (.cells #[.slice none 0 0] 56)) W l o o' hl h h2 h3) (Below.refl _ _) (fun _ => rfl)
    (AccI w) (fun _ _ _ => False) (accI_own w _ (by simp)) (fun _ _ _ _ _ hs _ _ => hs)
    ⟨⟨_, heap_alloc_new w _, rowF_nil _ _⟩, (Below.refl _ _).alloc (Nat.le_refl _) _⟩
    (AccA Bm w.heap.size) (accA_own Bm w.heap.size _) ?assign ?body ?done ?stop
  case assign =>
    intro l pre x W K hI hK
    have HI := Lib.hid hI
    clear hI
    unfold k3
    gi_wp2
    exact hK _ _ ((KeepsOthers.alloc W _).from _) (KeepsWalks.alloc W _) ((accI_own w w.heap.size (Nat.le_refl _)).alloc _ HI.out) ⟨W.heap.size, rfl, heap_alloc_new W _⟩
  case body =>
    rintro l pre x a' W _ _ ⟨⟨v, hb, hr⟩, hB⟩ ⟨p, rfl, hp⟩ hlt
    have HBX := Lib.hid hb
    have HR := Lib.hid hr
    have HBB := Lib.hid hB
    have hc : W.cell? ⟨w.heap.size, 0, none⟩ = some v := block_cell HBX.out 0
    have hf := block_frozen HBX.out 0
    have lbx := block_lt HBX.out
    have c0 : W.cell? ⟨p, 0, none⟩ = some (.int .i64 x.a) := block_cell hp 0
    have c1 : W.cell? ⟨p, 1, none⟩ = some (.int .i64 x.b) := block_cell hp 1
    have c2 : W.cell? ⟨p, 2, none⟩ = some (.int .i64 x.c) := block_cell hp 2
    have lp := block_lt hp
    clear hb hr hB hp
    unfold k3
    gi_wp2_with (gi_at_builtin; refine halt_here ?_)
    refine go_on ?_
    refine wpListIn_append rfl (.tmp 8) (.tmp 10) rfl _ _ rfl rfl _ (append_onto tpK _ w.heap.size v (.slice (some ⟨W.heap.size, 0, none⟩) 1 1) pre [x] (W.alloc (.cells #[.int .i64 x.a, .int .i64 x.b, .int .i64 x.c] 36)) (rowF_ext _ _ _ (ext_alloc (ext_refl _) _) HR.out) (srcOf_one (H := 0) ⟨W.heap.size, rfl, Nat.zero_le _, heap_alloc_new W _⟩) (by simp; omega) (by rw [World.size_alloc]; omega)) ?_
    rintro v7 w7 ⟨hR7, hg7⟩
    have HR7 := Lib.hid hR7
    have HG7 := Lib.hid hg7
    obtain ⟨O7, c7, hv7⟩ := rowE_form hR7.1
    subst hv7
    rw [show (pre ++ [x]).length = pre.length + 1 by simp] at HR7
    clear hR7 hg7 hc hf c0 c1 c2 lp
    have hoff : v.ownBlock ≠ some w.heap.size := rowE_off HR.out.1 HBX.out (by decide)
    have HBX7 := Lib.hid ((HG7.out.block w.heap.size (by rw [World.size_alloc]; omega) (fun e => hoff e.symm)).trans ((ext_block (ext_alloc (ext_refl W) (.cells #[.int .i64 x.a, .int .i64 x.b, .int .i64 x.c] 36)) lbx).trans HBX.out))
    have hc : w7.cell? ⟨w.heap.size, 0, none⟩ = some v := block_cell HBX7.out 0
    have hf := block_frozen HBX7.out 0
    have lb7 := block_lt HBX7.out
    clear hoff
    gi_wp2
    have hU : Upd (fun b => w.heap.size ≤ b) W (w7.setCell ⟨w.heap.size, 0, none⟩ (.slice O7 (pre.length + 1) c7)) := upd_trans (upd_trans (upd_of_ext (ext_alloc (ext_refl _) _)) (upd_grown HG7.out) (fun i _ e => HR.out.2 i e)) (upd_setCell _) (fun i _ e => Nat.le_of_eq e.symm)
    have hKO : KeepsOthers W (w7.setCell ⟨w.heap.size, 0, none⟩ (.slice O7 (pre.length + 1) c7)) := ((KeepsOthers.alloc W _).trans (KeepsOthers.of_grownBy HG7.out (fun j o e ho => by
      obtain ⟨lb, cur, h3⟩ := rowE_block HR.out.1 e
      have h4 := ho
      rw [ext_block (ext_alloc (ext_refl W) _) lb, h3] at h4
      cases h4
      rfl))).trans (KeepsOthers.setCell _ _ _)
    refine ⟨hKO.from _, hKO.walks, ⟨_, (by rw [heap_setCell_at HBX7.out]; rfl), rowE_upd HR7.out.1 (upd_setCell _) (fun b hb e => ?_), HR7.out.2⟩, ⟨hU.os.trans HBB.out.os, hU.tape.trans HBB.out.tape, hU.output.trans HBB.out.output, Nat.le_trans HBB.out.size hU.size, fun k hk => (hU.block k (Nat.lt_of_lt_of_le hk HBB.out.size) (by omega)).trans (HBB.out.block k hk)⟩⟩
    subst e
    exact rowE_off HR7.out.1 HBX7.out (by decide) hb
  case done =>
    rintro D ys W hD hS ⟨⟨v, hb, hr⟩, hB⟩ hK
    have HB := Lib.hid hb
    have HR := Lib.hid hr
    have HBB := Lib.hid hB
    have HK := Lib.hid hK
    have HS := Lib.hid hS
    have hc : W.cell? ⟨w.heap.size, 0, none⟩ = some v := block_cell hb 0
    have hf := block_frozen hb 0
    have lbx := block_lt hb
    clear hb hr hB hK hS
    gi_wp2
    refine ⟨by simp, .inl ⟨_, _, rfl, run_takeDeferred HK.out, ?_⟩⟩
    refine ⟨_, results_tmp rfl _ _ _, v, ys, rfl, HS.out, ⟨rowE_upd HR.out.1 (upd_grown (grownBy_putObj' W D _)) (fun b hb e => ?_), HR.out.2⟩, HBB.out.trans (belowK_b (w := w) (Nat.le_refl _) W D _ _ (by rw [World.size_alloc] at hD; omega) HK.out rfl rfl)⟩
    cases e
    obtain ⟨_, cur, h3⟩ := rowE_block HR.out.1 hb
    rw [HK.out] at h3
    cases h3
  case stop =>
    rintro D c pre W _ _ h _
    exact h.elim
theorem collect_any (m Bm N : Nat) (f : Key → Option Int) (w : World) (hbm : w.heap[Bm]? = some (.cells #[.map (some m)] 52 (0, 0))) (hM : MapC m N f w) (hm : N ≤ 100000) :
    Calls Try.prog 28 #[.func (.func 30) #[] #[.pointer (some ⟨Bm, 0, none⟩)]] w fun e w' => ∃ v' xs, e = .returned v' ∧ KeysOf f xs ∧ rowF elK w.heap.size xs v' w' ∧ Ext w w' := by
  go_enter Try.func28, Try.ntmps28
  go_wp2_with (go_at_call 33; refine (appendSeq_any m Bm N f w hbm hM hm).mono ?_; rintro e w1 ⟨v1, xs, rfl, hS, hr1, hE1⟩)
  refine bodyPost_ret (results_tmp rfl _ _ _) rfl ?_
  exact ⟨v1, xs, rfl, hS, hr1, hE1⟩
end Go.Proofs.Ytojgbphmkloicaa
