/- StoreCopies: whatever the arguments. -/
import Derived.Test.YtfaegjlolhpofaaDoorUk
namespace Go.Proofs.YtfaegjlolhpofaaDoor
open Go.RowKit Go.Sort
set_option maxHeartbeats 800000

theorem copies_any (A0 : Option Addr) (cap : Nat) (acts : List ActV) (A1 : Option Addr) (cap1 : Nat) (acts1 : List ActV) (w : World) (hL : Laid w) (hA : acts ≠ [] → ∃ b off, A0 = some ⟨b, off, none⟩ ∧ ActsIn w b off acts) (hA1 : acts1 ≠ [] → ∃ b off, A1 = some ⟨b, off, none⟩ ∧ ActsIn w b off acts1) :
    Calls Tryd.prog 8 #[.slice A0 acts.length cap, .slice A1 acts1.length cap1] w fun e w' => e = .returned (.bool true) ∧ Ext w w' := by
  by_cases hn : acts.length ≤ 30
  · by_cases hm : acts1.length ≤ 30
    · exact copies_row A0 cap acts A1 cap1 acts1 w hL hA hA1 hn hm
    · have HL := Lib.hid hL
      clear hL hA hA1
      have hn' : ¬ 30 < acts.length := by omega
      have hn2 : (acts.length : Int) ≤ 30 := by omega
      have hm2 : (30 : Int) < (acts1.length : Int) := by omega
      go_enter Tryd.func8, Tryd.ntmps8
      go_wp2_with (first
        | (go_at_call 9; refine (awake_any _ HL.out).mono ?_; rintro e w1 ⟨rfl, hE⟩; have HE := Lib.hid hE; clear hE; have tok := HE)
        | (go_at_call 9; refine (awake_any _ (laid_ext HL.out HE.out)).mono ?_; rintro e w2 ⟨rfl, hE⟩; have HE2 := Lib.hid (ext_trans HE.out hE); clear hE))
      go_ret
      exact ⟨rfl, HE2.out⟩
  · have HL := Lib.hid hL
    clear hL hA hA1
    have hn2 : (30 : Int) < (acts.length : Int) := by omega
    go_enter Tryd.func8, Tryd.ntmps8
    go_wp2_with (first
      | (go_at_call 9; refine (awake_any _ HL.out).mono ?_; rintro e w1 ⟨rfl, hE⟩; have HE := Lib.hid hE; clear hE; have tok := HE)
      | (go_at_call 9; refine (awake_any _ (laid_ext HL.out HE.out)).mono ?_; rintro e w2 ⟨rfl, hE⟩; have HE2 := Lib.hid (ext_trans HE.out hE); clear hE))
    go_ret
    exact ⟨rfl, HE2.out⟩
end Go.Proofs.YtfaegjlolhpofaaDoor
