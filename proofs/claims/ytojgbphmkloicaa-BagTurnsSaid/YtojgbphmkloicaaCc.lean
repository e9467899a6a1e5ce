/- slices.SortedFunc, maps.Keys at keys. -/
import Derived.Test.YtojgbphmkloicaaCb
import Derived.Shelf.SlSortCmp.NoneTotal
namespace Go.Proofs.Ytojgbphmkloicaa
open Go Go.RowKit Go.Sort
set_option maxHeartbeats 1000000

theorem sortAll_any (H : Nat) (v : Value) (L : List Key) (w : World) (h : rowF elK H L v w) (hm : L.length ≤ 1000000) :
    Calls Try.prog 29 #[v, .func (.func 19) #[] #[]] w fun e w' => e = .returned (.tuple #[]) ∧ ∃ L', L'.Perm L ∧ L'.Pairwise (fun x y => ¬ ltK y x) ∧ rowF elK H L' v w' ∧ Upd (fun b => v.ownBlock = some b) w w' := by
  by_cases hne : L = []
  · subst hne
    obtain ⟨A, c, hv⟩ := rowE_form h.1
    subst hv
    refine (AnyF.slices_SortFunc_none Try.laysF29 A c _ w).mono ?_
    rintro e w' ⟨rfl, rfl⟩
    exact ⟨rfl, [], List.Perm.refl _, List.Pairwise.nil, h, upd_refl⟩
  · exact sortF_any H v L w h hne hm
theorem keys_any (m : Nat) (w : World) : Calls Try.prog 18 #[.map (some m)] w fun e w' => ∃ Bm, e = .returned (.func (.func 30) #[] #[.pointer (some ⟨Bm, 0, none⟩)]) ∧ w'.heap[Bm]? = some (.cells #[.map (some m)] 52 (0, 0)) ∧ Ext w w' := by
  go_enter Try.func18, Try.ntmps18
  go_wp2
  refine bodyPost_ret (results_tmp rfl _ _ _) rfl ?_
  exact ⟨w.heap.size, rfl, heap_alloc_new w _, ext_alloc (ext_refl _) _⟩
theorem sortedF_any (m Bm N : Nat) (f : Key → Option Int) (w : World) (hbm : w.heap[Bm]? = some (.cells #[.map (some m)] 52 (0, 0))) (hM : MapC m N f w) (hm : N ≤ 100000) :
    Calls Try.prog 17 #[.func (.func 30) #[] #[.pointer (some ⟨Bm, 0, none⟩)], .func (.func 19) #[] #[]] w fun e w' => ∃ v' xs, e = .returned v' ∧ (∀ x, x ∈ xs ↔ (f x).isSome = true) ∧ xs.length = N ∧ xs.Pairwise ltK ∧ rowF elK w.heap.size xs v' w' ∧ Ext w w' := by
  have HM := Lib.hid hM
  go_enter Try.func17, Try.ntmps17
  go_wp2_with (go_at_call 28; refine (collect_any m Bm N f w hbm hM hm).mono ?_; rintro e w1 ⟨v1, xs, rfl, hS, hr1, hE1⟩)
  have hlen : xs.length = N := mapG_card HM.out hS.1 hS.2
  go_wp2_with (go_at_call 29; refine (sortAll_any w.heap.size v1 xs w1 hr1 (by omega)).mono ?_; rintro e w2 ⟨rfl, L', hp, hpw, hr2, hU2⟩)
  refine bodyPost_ret (results_tmp rfl _ _ _) rfl ?_
  have hnd : L'.Nodup := hp.nodup_iff.2 hS.1
  exact ⟨v1, L', rfl, fun x => hp.mem_iff.trans (hS.2 x), hp.length_eq.trans hlen, (hpw.and hnd).imp (fun h => ltK_total h.1 (fun e => h.2 e.symm)), hr2, ext_of_upd (upd_trans (upd_of_ext hE1) hU2 (fun i hi e => absurd (hr1.2 i e) (by omega)))⟩
end Go.Proofs.Ytojgbphmkloicaa
