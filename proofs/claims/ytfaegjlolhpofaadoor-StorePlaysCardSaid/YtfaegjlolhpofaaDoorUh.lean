/- StoreUndoes, StoreAgrees, StorePlays: whatever the arguments. -/
import Derived.Test.YtfaegjlolhpofaaDoorUg
import Derived.Test.YtfaegjlolhpofaaDoorUa
namespace Go.Proofs.YtfaegjlolhpofaaDoor
open Go.RowKit Go.Sort
set_option maxHeartbeats 800000

def ActArg (w : World) (A0 : Option Addr) (acts : List ActV) : Prop := acts ≠ [] → ∃ b off, A0 = some ⟨b, off, none⟩ ∧ ActsIn w b off acts
theorem undoes_any (A0 : Option Addr) (cap : Nat) (acts : List ActV) (k : Key) (w : World) (hL : Laid w) (hA : ActArg w A0 acts) :
    Calls Tryd.prog 7 #[.slice A0 acts.length cap, K3 k.a k.b k.c] w fun e w' => e = .returned (.bool true) ∧ Ext w w' := by
  by_cases hn : acts.length ≤ 40
  · exact undoes_row A0 cap acts k w hL hA hn
  · have HL := Lib.hid hL
    clear hL hA
    have hn2 : (40 : Int) < (acts.length : Int) := by omega
    go_enter Tryd.func7, Tryd.ntmps7
    go_wp2_with (first
      | (go_at_call 9; refine (awake_any _ (laid_ext HL.out (ext_alloc (ext_refl _) _))).mono ?_; rintro e w1 ⟨rfl, hE⟩; have HE := Lib.hid (ext_trans (ext_alloc (ext_refl w) (.cells #[.int .i64 k.a, .int .i64 k.b, .int .i64 k.c] 22)) hE); clear hE; have tok := HE)
      | (go_at_call 9; refine (awake_any _ (laid_ext HL.out HE.out)).mono ?_; rintro e w2 ⟨rfl, hE⟩; have HE2 := Lib.hid (ext_trans HE.out hE); clear hE))
    go_ret
    exact ⟨rfl, HE2.out⟩

theorem agrees_any (A0 : Option Addr) (cap : Nat) (acts : List ActV) (k : Key) (w : World) (hL : Laid w) (hA : ActArg w A0 acts) :
    Calls Tryd.prog 4 #[.slice A0 acts.length cap, K3 k.a k.b k.c] w fun e w' => e = .returned (.bool true) ∧ Ext w w' := by
  by_cases hn : acts.length ≤ 40
  · exact agrees_row A0 cap acts k w hL hA hn
  · have HL := Lib.hid hL
    clear hL hA
    have hn2 : (40 : Int) < (acts.length : Int) := by omega
    go_enter Tryd.func4, Tryd.ntmps4
    go_wp2_with (first
      | (go_at_call 9; refine (awake_any _ (laid_ext HL.out (ext_alloc (ext_refl _) _))).mono ?_; rintro e w1 ⟨rfl, hE⟩; have HE := Lib.hid (ext_trans (ext_alloc (ext_refl w) (.cells #[.int .i64 k.a, .int .i64 k.b, .int .i64 k.c] 22)) hE); clear hE; have tok := HE)
      | (go_at_call 9; refine (awake_any _ (laid_ext HL.out HE.out)).mono ?_; rintro e w2 ⟨rfl, hE⟩; have HE2 := Lib.hid (ext_trans HE.out hE); clear hE))
    go_ret
    exact ⟨rfl, HE2.out⟩

theorem plays_any (room : Int) (A0 : Option Addr) (cap : Nat) (acts : List ActV) (w : World) (hL : Laid w) (hA : ActArg w A0 acts) :
    Calls Tryd.prog 6 #[.int .i64 room, .slice A0 acts.length cap] w fun e w' => e = .returned (.bool true) ∧ Ext w w' := by
  by_cases hn : acts.length ≤ 60
  · by_cases hr : 1 ≤ room ∧ room ≤ 100000
    · exact plays_row room A0 cap acts w hL hA hn hr.1 hr.2
    · have HL := Lib.hid hL
      clear hL hA
      have hn2 : (acts.length : Int) ≤ 60 := by omega
      have hn' : ¬ 60 < acts.length := by omega
      by_cases h1 : room < 1
      · go_enter Tryd.func6, Tryd.ntmps6
        go_wp2_with (first
          | (go_at_call 9; refine (awake_any _ HL.out).mono ?_; rintro e w1 ⟨rfl, hE⟩; have HE := Lib.hid hE; clear hE)
          | (go_at_call 15; refine (new_bad room (.inl h1) _).mono ?_; rintro e w2 ⟨rfl, rfl⟩))
        go_ret
        exact ⟨rfl, HE.out⟩
      · have h2 : 100000 < room := by omega
        go_enter Tryd.func6, Tryd.ntmps6
        go_wp2_with (first
          | (go_at_call 9; refine (awake_any _ HL.out).mono ?_; rintro e w1 ⟨rfl, hE⟩; have HE := Lib.hid hE; clear hE)
          | (go_at_call 15; refine (new_bad room (.inr h2) _).mono ?_; rintro e w2 ⟨rfl, rfl⟩))
        go_ret
        exact ⟨rfl, HE.out⟩
  · have HL := Lib.hid hL
    clear hL hA
    have hn2 : (60 : Int) < (acts.length : Int) := by omega
    go_enter Tryd.func6, Tryd.ntmps6
    go_wp2_with (first
      | (go_at_call 9; refine (awake_any _ HL.out).mono ?_; rintro e w1 ⟨rfl, hE⟩; have HE := Lib.hid hE; clear hE; have tok := HE)
      | (go_at_call 9; refine (awake_any _ (laid_ext HL.out HE.out)).mono ?_; rintro e w2 ⟨rfl, hE⟩; have HE2 := Lib.hid (ext_trans HE.out hE); clear hE))
    go_ret
    exact ⟨rfl, HE2.out⟩
end Go.Proofs.YtfaegjlolhpofaaDoor
