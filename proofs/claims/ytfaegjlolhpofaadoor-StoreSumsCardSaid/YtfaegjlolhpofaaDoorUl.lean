/- StoreSums: whatever the arguments. -/
import Derived.Test.YtfaegjlolhpofaaDoorUi
namespace Go.Proofs.YtfaegjlolhpofaaDoor
open Go.RowKit Go.Sort
set_option maxHeartbeats 800000

theorem sums_any (A0 : Option Addr) (cap : Nat) (acts : List ActV) (k : Key) (pl : Int) (w : World) (hL : Laid w) (hA : acts ≠ [] → ∃ b off, A0 = some ⟨b, off, none⟩ ∧ ActsIn w b off acts) (hp : 0 ≤ pl ∧ pl ≤ 255) :
    Calls Tryd.prog 5 #[.slice A0 acts.length cap, K3 k.a k.b k.c, .int .u8 pl] w fun e w' => e = .returned (.bool true) ∧ Ext w w' := by
  by_cases hn : acts.length ≤ 40
  · exact sums_row A0 cap acts k pl w hL hA hn hp.1 hp.2
  · have HL := Lib.hid hL
    clear hL hA hp
    have hn2 : (40 : Int) < (acts.length : Int) := by omega
    go_enter Tryd.func5, Tryd.ntmps5
    go_wp2_with (first
      | (go_at_call 9; refine (awake_any _ (laid_ext HL.out (ext_alloc (ext_refl _) _))).mono ?_; rintro e w1 ⟨rfl, hE⟩; have HE := Lib.hid (ext_trans (ext_alloc (ext_refl w) (.cells #[.int .i64 k.a, .int .i64 k.b, .int .i64 k.c] 22)) hE); clear hE; have tok := HE)
      | (go_at_call 9; refine (awake_any _ (laid_ext HL.out HE.out)).mono ?_; rintro e w2 ⟨rfl, hE⟩; have HE2 := Lib.hid (ext_trans HE.out hE); clear hE))
    go_ret
    exact ⟨rfl, HE2.out⟩
end Go.Proofs.YtfaegjlolhpofaaDoor
