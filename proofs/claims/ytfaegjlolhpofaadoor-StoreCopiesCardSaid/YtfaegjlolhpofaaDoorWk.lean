/- Fits, Has, Len, New. -/
import Derived.Test.YtfaegjlolhpofaaDoorWj
import Derived.Test.YtfaegjlolhpofaaDoorWh
namespace Go.Proofs.YtfaegjlolhpofaaDoor
open Go.RowKit Go.Sort
set_option maxHeartbeats 800000

def fit1 (p k : Int) : Bool := decide (p < 0) || p == k
def fitsB (p k : Key) : Bool := fit1 p.a k.a && fit1 p.b k.b && fit1 p.c k.c
theorem fit1_false {p k : Int} (h : ¬ (p < 0 ∨ p = k)) : fit1 p k = false := by
  unfold fit1
  rw [decide_eq_false (fun h' => h (.inl h')), Bool.false_or]
  simp only [beq_eq_false_iff_ne, ne_eq]
  exact fun h' => h (.inr h')
theorem fit1_true {p k : Int} (h : p < 0 ∨ p = k) : fit1 p k = true := by
  unfold fit1
  rcases h with h | h
  · rw [decide_eq_true h, Bool.true_or]
  · rw [h]; simp

theorem fits_any (p k : Key) (w : World) : Calls Tryd.prog 14 #[K3 p.a p.b p.c, K3 k.a k.b k.c] w fun e w' => e = .returned (.bool (fitsB p k)) ∧ Ext w w' := by
  have x0 := idx0
  have x1 := idx1
  have x2 := idx2
  go_enter Tryd.func14, Tryd.ntmps14
  go_wp2
  go_loop [8] (fun i => (i = .int .i64 0 ∧ True) ∨ (i = .int .i64 1 ∧ (p.a < 0 ∨ p.a = k.a)) ∨ (i = .int .i64 2 ∧ (p.a < 0 ∨ p.a = k.a) ∧ (p.b < 0 ∨ p.b = k.b)) ∨ (i = .int .i64 3 ∧ (p.a < 0 ∨ p.a = k.a) ∧ (p.b < 0 ∨ p.b = k.b) ∧ (p.c < 0 ∨ p.c = k.c))) (fun i => 3 - (intOf i).toNat)
  case atStart => exact .inl ⟨rfl, trivial⟩
  case round =>
    rcases hrel with ⟨rfl, e⟩ | ⟨rfl, e⟩ | ⟨rfl, e⟩ | ⟨rfl, e⟩
    · have E := Lib.hid e
      clear e
      by_cases h1 : p.a < 0
      · have h2 : decide (0 ≤ p.a) = false := by simp; omega
        go_wp2
        go_round
        case rel => exact .inr (.inl ⟨rfl, (.inl h1)⟩)
        case measure => simp [intOf]
      · have h2 : 0 ≤ p.a := by omega
        by_cases h3 : p.a = k.a
        · have hb : (p.a != k.a) = false := by simp [h3]
          have H3 := Lib.hid h3
          clear h3
          go_wp2
          go_round
          case rel => exact .inr (.inl ⟨rfl, (.inr H3.out)⟩)
          case measure => simp [intOf]
        · have hb : (p.a != k.a) = true := by simp [h3]
          have H3 := Lib.hid h3
          clear h3
          go_wp2
          go_ret
          refine ⟨ret_bool ?_, ext_alloc (ext_alloc (ext_refl _) _) _⟩
          unfold fitsB
          rw [fit1_false (p := p.a) (k := k.a) (fun h => h.elim (by omega) H3.out)]
          simp
    · have E := Lib.hid e
      clear e
      by_cases h1 : p.b < 0
      · have h2 : decide (0 ≤ p.b) = false := by simp; omega
        go_wp2
        go_round
        case rel => exact .inr (.inr (.inl ⟨rfl, ⟨E.out, (.inl h1)⟩⟩))
        case measure => simp [intOf]
      · have h2 : 0 ≤ p.b := by omega
        by_cases h3 : p.b = k.b
        · have hb : (p.b != k.b) = false := by simp [h3]
          have H3 := Lib.hid h3
          clear h3
          go_wp2
          go_round
          case rel => exact .inr (.inr (.inl ⟨rfl, ⟨E.out, (.inr H3.out)⟩⟩))
          case measure => simp [intOf]
        · have hb : (p.b != k.b) = true := by simp [h3]
          have H3 := Lib.hid h3
          clear h3
          go_wp2
          go_ret
          refine ⟨ret_bool ?_, ext_alloc (ext_alloc (ext_refl _) _) _⟩
          unfold fitsB
          rw [fit1_false (p := p.b) (k := k.b) (fun h => h.elim (by omega) H3.out)]
          simp
    · have E := Lib.hid e
      clear e
      by_cases h1 : p.c < 0
      · have h2 : decide (0 ≤ p.c) = false := by simp; omega
        go_wp2
        go_round
        case rel => exact .inr (.inr (.inr ⟨rfl, ⟨E.out.1, E.out.2, (.inl h1)⟩⟩))
        case measure => simp [intOf]
      · have h2 : 0 ≤ p.c := by omega
        by_cases h3 : p.c = k.c
        · have hb : (p.c != k.c) = false := by simp [h3]
          have H3 := Lib.hid h3
          clear h3
          go_wp2
          go_round
          case rel => exact .inr (.inr (.inr ⟨rfl, ⟨E.out.1, E.out.2, (.inr H3.out)⟩⟩))
          case measure => simp [intOf]
        · have hb : (p.c != k.c) = true := by simp [h3]
          have H3 := Lib.hid h3
          clear h3
          go_wp2
          go_ret
          refine ⟨ret_bool ?_, ext_alloc (ext_alloc (ext_refl _) _) _⟩
          unfold fitsB
          rw [fit1_false (p := p.c) (k := k.c) (fun h => h.elim (by omega) H3.out)]
          simp
    · have E := Lib.hid e
      clear e
      go_wp2
      go_ret
      refine ⟨ret_bool ?_, ext_alloc (ext_alloc (ext_refl _) _) _⟩
      unfold fitsB
      rw [fit1_true E.out.1, fit1_true E.out.2.1, fit1_true E.out.2.2]
      rfl

theorem has_any (s : Nat) (v : Nat → Value) (r : Nat → List Key) (room : Int) (t : Key) (w : World) (hL : Laid w) (hS : StoreAt w s v r room) (hm : (r 0).length ≤ 1000000) (hmono : Rising 0 (r 0)) :
    Calls Tryd.prog 19 #[.pointer (some ⟨s, 0, none⟩), K3 t.a t.b t.c] w fun e w' => e = .returned (.bool (foundB 0 (r 0) t (lb 0 (r 0) t))) ∧ Ext w w' := by
  have HL := Lib.hid hL
  have HS := Lib.hid hS
  have HM := Lib.hid hmono
  have HLen := Lib.hid hm
  clear hL hS hmono hm
  go_enter Tryd.func19, Tryd.ntmps19
  go_wp2_with (go_at_call 30; refine (find_any s 0 0 rfl v r room t _ ?_ ?_ (by omega) HLen.out HM.out).mono ?_; (exact laid_ext HL.out (ext_alloc (ext_refl _) _)); (exact store_ext HS.out (ext_alloc (ext_refl _) _)); rintro e w1 ⟨rfl, hE⟩)
  have HE := Lib.hid hE
  clear hE
  go_ret
  exact ⟨rfl, ext_trans (ext_alloc (ext_refl _) _) HE.out⟩

theorem len_any (s : Nat) (v : Nat → Value) (r : Nat → List Key) (room : Int) (w : World) (hS : StoreAt w s v r room) :
    Calls Tryd.prog 27 #[.pointer (some ⟨s, 0, none⟩)] w fun e w' => e = .returned (.int .i64 (r 0).length) ∧ w = w' := by
  have c0 := store_cell hS 0 (by omega)
  rcases row_cases (hS.row 0 (by omega)) with ⟨h1, h2⟩ | ⟨g, cap, cur, h1, _⟩
  · rw [h1] at c0
    rw [h2]
    clear h1 h2 hS
    go_enter Tryd.func27, Tryd.ntmps27
    go_wp2
    go_ret
    exact ⟨rfl, rfl⟩
  · rw [h1] at c0
    clear h1 hS
    go_enter Tryd.func27, Tryd.ntmps27
    go_wp2
    go_ret
    exact ⟨rfl, rfl⟩

theorem new_bad (room : Int) (h : room < 1 ∨ 100000 < room) (w : World) : Calls Tryd.prog 15 #[.int .i64 room] w fun e w' => e = .returned (.tuple #[.pointer none, .int .i64 2]) ∧ w = w' := by
  by_cases h1 : room < 1
  · go_enter Tryd.func15, Tryd.ntmps15
    go_wp2
    go_ret2
    exact ⟨rfl, rfl⟩
  · have h2 : 100000 < room := by omega
    have h3 : ¬ room < 1 := by omega
    go_enter Tryd.func15, Tryd.ntmps15
    go_wp2
    go_ret2
    exact ⟨rfl, rfl⟩

def nilV (_ : Nat) : Value := .slice none 0 0
def noKeys (_ : Nat) : List Key := []
theorem store_new (w : World) (room : Int) (hw : 1 < w.heap.size) : StoreAt (w.alloc (.cells #[.slice none 0 0, .slice none 0 0, .slice none 0 0, .int .i64 room] 65)) w.heap.size nilV noKeys room :=
  ⟨heap_alloc_new w _, fun _ _ => World.ownsRow_nil _ _ _ _, (fun _ _ h => by cases h), (fun _ _ _ _ _ g h => by cases h), hw, (fun _ _ g h => by cases h)⟩
theorem new_ok (room : Int) (h1 : 1 ≤ room) (h2 : room ≤ 100000) (w : World) : Calls Tryd.prog 15 #[.int .i64 room] w fun e w' => e = .returned (.tuple #[.pointer (some ⟨w.heap.size, 0, none⟩), .int .i64 0]) ∧ w' = w.alloc (.cells #[.slice none 0 0, .slice none 0 0, .slice none 0 0, .int .i64 room] 65) := by
  have h3 : ¬ room < 1 := by omega
  have h4 : ¬ 100000 < room := by omega
  go_enter Tryd.func15, Tryd.ntmps15
  go_wp2
  go_ret2
  exact ⟨rfl, rfl⟩
end Go.Proofs.YtfaegjlolhpofaaDoor
