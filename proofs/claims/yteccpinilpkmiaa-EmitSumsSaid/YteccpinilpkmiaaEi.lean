/- slices.AppendSeq, Collect, Sorted over slices.Values. -/
import Derived.Test.YteccpinilpkmiaaEh
namespace Go.Proofs.Yteccpinilpkmiaa
open Go Go.RowKit Go.Sort Go.Shelf
set_option maxHeartbeats 800000
attribute [local go_sem] Oper.semAt_some

def CollI (w : World) (pre : List ByteArray) (W : World) : Prop := ∃ v, W.heap[w.heap.size]? = some (.cells #[v] 22 (0, 0)) ∧ rowF elS w.heap.size pre v W
theorem collI_own (w : World) : Own (CollI w) := fun s A B row hs hg hr => by
  obtain ⟨v, h1, h2⟩ := hs
  refine ⟨v, (grownBy_keeps_cells hg hr h1 rfl).trans h1, rowE_upd h2.1 (upd_grown hg) (fun b hb e => ?_), h2.2⟩
  obtain ⟨o, h3, h4⟩ := hr b e
  obtain ⟨_, cur, h5⟩ := rowE_block h2.1 hb
  rw [h3] at h5
  cases h5
  cases h4

theorem appendSeq_any (A : Option Addr) (c b1 : Nat) (L : List ByteArray) (w : World) (hb1 : w.heap[b1]? = some (.cells #[.slice A L.length c] 22 (0, 0))) (h : RdS w (.slice A L.length c) L) (hm : L.length ≤ 100000) :
    Calls Try.prog 28 #[.slice none 0 0, .func (.func 25) #[] #[.pointer (some ⟨b1, 0, none⟩)]] w fun e w' => ∃ v', e = .returned v' ∧ rowF elS w.heap.size L v' w' ∧ Ext w w' := by
  have HB1 := Lib.hid hb1
  have HRD := Lib.hid h
  clear hb1 h
  refine (callsIn_wide (n := 8)).1 ?_
  refine callsIn_of_wp_marks Try.func28 rfl trivial ?_ rfl
  simp only [Try.ntmps28, List.size_toArray, List.length_cons, List.length_nil, Nat.reduceAdd, Nat.reduceSub, Array.replicate_succ, Array.replicate_zero, List.push_toArray, List.append_toArray, List.nil_append, List.cons_append]
  gi_wp2
  have hE1 := ext_alloc (ext_refl w) (.cells #[.slice none 0 0] 22)
  have HRD1 := Lib.hid (rdS_ext HRD.out hE1)
  have HB2 := Lib.hid ((ext_block hE1 (block_lt HB1.out)).trans HB1.out)
  clear hE1
  refine wpIn_rangeFunc_ownF (F := Fence.wide) rfl (by decide) (gf := 25) rfl trivial (enters_of Try.func25 (by kernel_rfl) rfl)
    (values_seq _ (fun b => w.heap.size ≤ b) A c b1 L _ HB2.out HRD1.out (by omega) (fun b off e hne => by
      obtain ⟨A', c', hv, _, hA⟩ := HRD.out
      simp only [Value.slice.injEq, true_and] at hv
      obtain ⟨rfl, rfl⟩ := hv
      obtain ⟨b', off', h1, h2, _⟩ := hA hne
      rw [e] at h1
      cases h1
      omega))
    (fun h k => upd_trans h k (fun _ _ h => h)) (fun W l o o' hl _ _ _ => upd_mono (upd_grown (grownBy_putObj' W l o')) (fun b _ e => by cases e; rw [World.size_alloc] at hl; omega)) (Below.refl _ _) (fun _ => rfl)
    (fun pre W => CollI w pre W ∧ Below w.heap.size w W)
    (fun _ _ _ => False)
    (OwnFrom.and (Own.from (collI_own w) _) (ownFrom_below (Nat.le_refl _) (by simp)))
    (fun _ _ _ _ _ hs _ _ => hs)
    ⟨⟨_, heap_alloc_new w _, rowF_nil _ _⟩, (Below.refl _ _).alloc (Nat.le_refl _) _⟩
    (fun x => { tmps := #[.slice none 0 0, .func (.func 25) #[] #[.pointer (some ⟨b1, 0, none⟩)], .pointer (some ⟨w.heap.size, 0, none⟩), undef, .slice none 0 0, .string x, .func (.func 25) #[] #[.pointer (some ⟨b1, 0, none⟩)], .string x, undef, undef, undef, undef, undef], defers := [] }) ?assign ?body ?done ?stop
  case assign =>
    intro l x W K hK
    gi_wp2
    exact hK
  case body =>
    rintro l pre x W ⟨⟨v, hb, hr⟩, hB⟩ hlt
    have HBX := Lib.hid hb
    have HR := Lib.hid hr
    have HBB := Lib.hid hB
    clear hb hr hB
    have hc : W.cell? ⟨w.heap.size, 0, none⟩ = some v := block_cell HBX.out 0
    have hf := block_frozen HBX.out 0
    have lbx := block_lt HBX.out
    gi_wp2_with (gi_at_builtin; refine halt_here ?_)
    refine go_on ?_
    refine wpListIn_append rfl (.tmp 8) (.tmp 10) rfl _ _ rfl rfl _ (append_onto tpS _ w.heap.size v (.slice (some ⟨W.heap.size, 0, none⟩) 1 1) pre [x] (W.alloc (.cells #[.string x] 9)) (rowF_ext _ _ _ (ext_alloc (ext_refl _) _) HR.out) (srcOf_one ⟨W.heap.size, rfl, Nat.le_refl _, heap_alloc_new W _⟩) (by simp; omega) (by rw [World.size_alloc]; omega)) ?_
    rintro v7 w7 ⟨hR7, hg7⟩
    have HR7 := Lib.hid hR7
    have HG7 := Lib.hid hg7
    obtain ⟨O7, c7, hv7⟩ := rowE_form hR7.1
    subst hv7
    rw [show (pre ++ [x]).length = pre.length + 1 by simp] at HR7
    clear hR7 hg7 hc hf
    have hoff : v.ownBlock ≠ some w.heap.size := rowE_off HR.out.1 HBX.out (by decide)
    have HBX7 := Lib.hid ((HG7.out.block w.heap.size (by rw [World.size_alloc]; omega) (fun e => hoff e.symm)).trans ((ext_block (ext_alloc (ext_refl W) (.cells #[.string x] 9)) lbx).trans HBX.out))
    have hc : w7.cell? ⟨w.heap.size, 0, none⟩ = some v := block_cell HBX7.out 0
    have hf := block_frozen HBX7.out 0
    have lb7 := block_lt HBX7.out
    clear hoff
    gi_wp2
    have hU : Upd (fun b => w.heap.size ≤ b) W (w7.setCell ⟨w.heap.size, 0, none⟩ (.slice O7 (pre.length + 1) c7)) := upd_trans (upd_trans (upd_of_ext (ext_alloc (ext_refl _) _)) (upd_grown HG7.out) (fun i _ e => HR.out.2 i e)) (upd_setCell _) (fun i _ e => Nat.le_of_eq e.symm)
    refine ⟨((KeepsOthers.alloc W _).trans (KeepsOthers.of_grownBy HG7.out (fun j o e ho => ?_))).trans (KeepsOthers.setCell _ _ _), hU, ⟨_, (by rw [heap_setCell_at HBX7.out]; rfl), rowE_upd HR7.out.1 (upd_setCell _) (fun b hb e => ?_), HR7.out.2⟩, ⟨hU.os.trans HBB.out.os, hU.tape.trans HBB.out.tape, hU.output.trans HBB.out.output, Nat.le_trans HBB.out.size hU.size, fun k hk => (hU.block k (Nat.lt_of_lt_of_le hk HBB.out.size) (by omega)).trans (HBB.out.block k hk)⟩⟩
    · obtain ⟨lb, cur, h3⟩ := rowE_block HR.out.1 e
      have h4 := ho
      rw [ext_block (ext_alloc (ext_refl W) _) lb, h3] at h4
      cases h4
      rfl
    · subst e
      exact rowE_off HR7.out.1 HBX7.out (by decide) hb
  case done =>
    rintro D ys W hD rfl ⟨⟨v, hb, hr⟩, hB⟩ hK
    have HB := Lib.hid hb
    have HR := Lib.hid hr
    have HBB := Lib.hid hB
    have HK := Lib.hid hK
    have hc : W.cell? ⟨w.heap.size, 0, none⟩ = some v := block_cell hb 0
    have hf := block_frozen hb 0
    have lbx := block_lt hb
    clear hb hr hB hK
    gi_wp2
    refine ⟨by simp, .inl ⟨_, _, rfl, run_takeDeferred HK.out, ?_⟩⟩
    refine ⟨_, results_tmp rfl _ _ _, v, rfl, ⟨rowE_upd HR.out.1 (upd_grown (grownBy_putObj' W D _)) (fun b hb e => ?_), HR.out.2⟩, HBB.out.trans (belowK_b (w := w) (Nat.le_refl _) W D _ _ (by rw [World.size_alloc] at hD; omega) HK.out rfl rfl)⟩
    cases e
    obtain ⟨_, cur, h3⟩ := rowE_block HR.out.1 hb
    rw [HK.out] at h3
    cases h3
  case stop =>
    rintro D c pre W _ _ h _
    exact h.elim
end Go.Proofs.Yteccpinilpkmiaa
