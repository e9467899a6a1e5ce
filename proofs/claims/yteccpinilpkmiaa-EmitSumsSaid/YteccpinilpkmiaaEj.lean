/- slices.Collect, Sorted, Values; told. -/
import Derived.Test.YteccpinilpkmiaaEi
namespace Go.Proofs.Yteccpinilpkmiaa
open Go Go.RowKit Go.Sort Go.Shelf
set_option maxHeartbeats 800000

theorem collect_any (A : Option Addr) (c b1 : Nat) (L : List ByteArray) (w : World) (hb1 : w.heap[b1]? = some (.cells #[.slice A L.length c] 22 (0, 0))) (h : RdS w (.slice A L.length c) L) (hm : L.length ≤ 100000) :
    Calls Try.prog 24 #[.func (.func 25) #[] #[.pointer (some ⟨b1, 0, none⟩)]] w fun e w' => ∃ v', e = .returned v' ∧ rowF elS w.heap.size L v' w' ∧ Ext w w' := by
  go_enter Try.func24, Try.ntmps24
  go_wp2_with (go_at_call 28; refine (appendSeq_any A c b1 L w hb1 h hm).mono ?_; rintro e w1 ⟨v1, rfl, hr1, hE1⟩)
  refine bodyPost_ret (results_tmp rfl _ _ _) rfl ?_
  exact ⟨v1, rfl, hr1, hE1⟩

theorem sorted_any (A : Option Addr) (c b1 : Nat) (L : List ByteArray) (w : World) (hb1 : w.heap[b1]? = some (.cells #[.slice A L.length c] 22 (0, 0))) (h : RdS w (.slice A L.length c) L) (hm : L.length ≤ 100000) :
    Calls Try.prog 20 #[.func (.func 25) #[] #[.pointer (some ⟨b1, 0, none⟩)]] w fun e w' => ∃ v', e = .returned v' ∧ rowF elS w.heap.size (sortS L) v' w' ∧ Ext w w' := by
  go_enter Try.func20, Try.ntmps20
  go_wp2_with (go_at_call 24; refine (collect_any A c b1 L w hb1 h hm).mono ?_; rintro e w1 ⟨v1, rfl, hr1, hE1⟩)
  go_wp2_with (go_at_call 22; refine (sort_any w.heap.size v1 L w1 hr1 (by omega)).mono ?_; rintro e w2 ⟨rfl, hr2, hu2⟩)
  refine bodyPost_ret (results_tmp rfl _ _ _) rfl ?_
  exact ⟨v1, rfl, hr2, ext_of_upd (upd_trans (upd_of_ext hE1) hu2 (fun i hi e => absurd (hr1.2 i e) (by omega)))⟩

theorem valuesF_any (A : Option Addr) (n c : Nat) (w : World) : Calls Try.prog 21 #[.slice A n c] w fun e w' => ∃ b1, e = .returned (.func (.func 25) #[] #[.pointer (some ⟨b1, 0, none⟩)]) ∧ w'.heap[b1]? = some (.cells #[.slice A n c] 22 (0, 0)) ∧ Ext w w' := by
  go_enter Try.func21, Try.ntmps21
  go_wp2
  refine bodyPost_ret (results_tmp rfl _ _ _) rfl ?_
  exact ⟨w.heap.size, rfl, heap_alloc_new w _, ext_alloc (ext_refl _) _⟩
end Go.Proofs.Yteccpinilpkmiaa
