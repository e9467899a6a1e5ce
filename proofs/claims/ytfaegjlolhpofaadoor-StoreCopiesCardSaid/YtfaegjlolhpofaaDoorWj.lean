/- Less by the document; Fits. -/
import Derived.Test.YtfaegjlolhpofaaDoorWi
namespace Go.Proofs.YtfaegjlolhpofaaDoor
open Go.RowKit Go.Sort
set_option maxHeartbeats 800000

theorem lessB_lt {o : Int} {x y : Key} : lessB o x y = decide (lexF (x.turn o).f (y.turn o).f 3 0 < 0) := rfl
theorem less_f0 (u v : Nat → Int) (h : u 0 ≠ v 0) : decide (lexF u v 3 0 < 0) = decide (u 0 < v 0) := by
  simp only [lexF]
  by_cases h1 : u 0 < v 0
  · simp [h1]
  · have h2 : v 0 < u 0 := by omega
    simp [h1, h2]
theorem less_f1 (u v : Nat → Int) (h0 : u 0 = v 0) (h : u 1 ≠ v 1) : decide (lexF u v 3 0 < 0) = decide (u 1 < v 1) := by
  have a1 : ¬ u 0 < v 0 := by omega
  have a2 : ¬ v 0 < u 0 := by omega
  simp only [lexF, a1, a2, if_false]
  by_cases h1 : u 1 < v 1
  · simp [h1]
  · have h2 : v 1 < u 1 := by omega
    simp [h1, h2]
theorem less_f2 (u v : Nat → Int) (h0 : u 0 = v 0) (h1 : u 1 = v 1) (h : u 2 ≠ v 2) : decide (lexF u v 3 0 < 0) = decide (u 2 < v 2) := by
  have a1 : ¬ u 0 < v 0 := by omega
  have a2 : ¬ v 0 < u 0 := by omega
  have b1 : ¬ u 1 < v 1 := by omega
  have b2 : ¬ v 1 < u 1 := by omega
  simp only [lexF, a1, a2, b1, b2, if_false]
  by_cases h1 : u 2 < v 2
  · simp [h1]
  · have h2 : v 2 < u 2 := by omega
    simp [h1, h2]
theorem less_f3 (u v : Nat → Int) (h0 : u 0 = v 0) (h1 : u 1 = v 1) (h2 : u 2 = v 2) : decide (lexF u v 3 0 < 0) = false := by
  have a1 : ¬ u 0 < v 0 := by omega
  have a2 : ¬ v 0 < u 0 := by omega
  have b1 : ¬ u 1 < v 1 := by omega
  have b2 : ¬ v 1 < u 1 := by omega
  have c1 : ¬ u 2 < v 2 := by omega
  have c2 : ¬ v 2 < u 2 := by omega
  simp only [lexF, a1, a2, b1, b2, c1, c2, if_false]
  simp
theorem ext_drewN (w : World) (n : Nat) : Ext w (w.drewN n) := ⟨rfl, rfl, rfl, Nat.le_refl _, fun _ _ => rfl⟩
theorem ret_bool {a b : Bool} (h : a = b) : Ending.returned (.bool a) = .returned (.bool b) := by rw [h]

theorem turn_0 (o : Int) (ho1 : (o == 1) = false) (ho2 : (o == 2) = false) (x : Key) : (x.turn o) = x := by
  simp at ho1 ho2
  simp [Key.turn, ho1, ho2]

theorem refless_0 (o : Int) (ho1 : (o == 1) = false) (ho2 : (o == 2) = false) (x y : Key) (w : World) : Calls Tryd.prog 13 #[.int .i64 o, K3 x.a x.b x.c, K3 y.a y.b y.c] w fun e w' => e = .returned (.bool (lessB o x y)) ∧ Ext w w' := by
  go_enter Tryd.func13, Tryd.ntmps13
  go_wp2
  refine wp_gen (fun W hW => ?_)
  have x0 : W.cell? ⟨w.heap.size, 0, none⟩ = some (.int .i64 x.a) := by rw [hW]; go_simp
  have x1 : W.cell? ⟨w.heap.size, 1, none⟩ = some (.int .i64 x.b) := by rw [hW]; go_simp
  have x2 : W.cell? ⟨w.heap.size, 2, none⟩ = some (.int .i64 x.c) := by rw [hW]; go_simp
  have y0 : W.cell? ⟨w.heap.size + 1, 0, none⟩ = some (.int .i64 y.a) := by rw [hW]; go_simp
  have y1 : W.cell? ⟨w.heap.size + 1, 1, none⟩ = some (.int .i64 y.b) := by rw [hW]; go_simp
  have y2 : W.cell? ⟨w.heap.size + 1, 2, none⟩ = some (.int .i64 y.c) := by rw [hW]; go_simp
  have HB := Lib.hid (show Ext w W by rw [hW]; exact ext_alloc (ext_alloc (ext_refl _) _) _)
  have l0 := World.block_lt_of_cell? _ _ x0
  have l1 := World.block_lt_of_cell? _ _ y0
  clear hW
  go_loopw [8] (fun i wr => (i = .int .i64 0 ∧  Ext W wr) ∨ (i = .int .i64 1 ∧ x.a = y.a ∧ Ext W wr) ∨ (i = .int .i64 2 ∧ x.a = y.a ∧ x.b = y.b ∧ Ext W wr) ∨ (i = .int .i64 3 ∧ x.a = y.a ∧ x.b = y.b ∧ x.c = y.c ∧ Ext W wr)) (fun i _ => 3 - (intOf i).toNat)
  case atStart => exact .inl ⟨rfl, ext_refl _⟩
  case round =>
    rcases hrel with ⟨rfl, hE⟩ | ⟨rfl, e0, hE⟩ | ⟨rfl, e0, e1, hE⟩ | ⟨rfl, e0, e1, e2, hE⟩
    · have z0 := (ext_cell hE _ 0 l0).trans x0
      have z1 := (ext_cell hE _ 1 l0).trans x1
      have z2 := (ext_cell hE _ 2 l0).trans x2
      have v0 := (ext_cell hE _ 0 l1).trans y0
      have v1 := (ext_cell hE _ 1 l1).trans y1
      have v2 := (ext_cell hE _ 2 l1).trans y2
      have HE := Lib.hid hE
      clear hE x0 x1 x2 y0 y1 y2 
      by_cases hn : x.a = y.a
      · have hb : (x.a != y.a) = false := by simp [hn]
        have EN := Lib.hid hn
        clear hn
        go_wp2
        go_quiet (fail)
        go_wp2
        go_roundw
        case rel => exact .inr (.inl ⟨rfl, EN.out, ext_trans HE.out (ext_drewN _ _)⟩)
        case measure => simp [intOf]
      · have hb : (x.a != y.a) = true := by simp [hn]
        have EN := Lib.hid hn
        clear hn
        go_wp2
        go_quiet (fail)
        go_wp2
        go_quiet (fail)
        go_wp2
        go_ret
        refine ⟨ret_bool ?_, ext_trans HB.out (ext_trans HE.out (ext_trans (ext_drewN _ _) (ext_drewN _ _)))⟩
        rw [lessB_lt]
        rw [turn_0 o ho1 ho2 x, turn_0 o ho1 ho2 y]
        exact (less_f0 x.f y.f  EN.out).symm
    · have z0 := (ext_cell hE _ 0 l0).trans x0
      have z1 := (ext_cell hE _ 1 l0).trans x1
      have z2 := (ext_cell hE _ 2 l0).trans x2
      have v0 := (ext_cell hE _ 0 l1).trans y0
      have v1 := (ext_cell hE _ 1 l1).trans y1
      have v2 := (ext_cell hE _ 2 l1).trans y2
      have HE := Lib.hid hE
      have E0 := Lib.hid e0
      clear hE x0 x1 x2 y0 y1 y2 e0
      by_cases hn : x.b = y.b
      · have hb : (x.b != y.b) = false := by simp [hn]
        have EN := Lib.hid hn
        clear hn
        go_wp2
        go_quiet (fail)
        go_wp2
        go_roundw
        case rel => exact .inr (.inr (.inl ⟨rfl, E0.out, EN.out, ext_trans HE.out (ext_drewN _ _)⟩))
        case measure => simp [intOf]
      · have hb : (x.b != y.b) = true := by simp [hn]
        have EN := Lib.hid hn
        clear hn
        go_wp2
        go_quiet (fail)
        go_wp2
        go_quiet (fail)
        go_wp2
        go_ret
        refine ⟨ret_bool ?_, ext_trans HB.out (ext_trans HE.out (ext_trans (ext_drewN _ _) (ext_drewN _ _)))⟩
        rw [lessB_lt]
        rw [turn_0 o ho1 ho2 x, turn_0 o ho1 ho2 y]
        exact (less_f1 x.f y.f E0.out EN.out).symm
    · have z0 := (ext_cell hE _ 0 l0).trans x0
      have z1 := (ext_cell hE _ 1 l0).trans x1
      have z2 := (ext_cell hE _ 2 l0).trans x2
      have v0 := (ext_cell hE _ 0 l1).trans y0
      have v1 := (ext_cell hE _ 1 l1).trans y1
      have v2 := (ext_cell hE _ 2 l1).trans y2
      have HE := Lib.hid hE
      have E0 := Lib.hid e0
      have E1 := Lib.hid e1
      clear hE x0 x1 x2 y0 y1 y2 e0 e1
      by_cases hn : x.c = y.c
      · have hb : (x.c != y.c) = false := by simp [hn]
        have EN := Lib.hid hn
        clear hn
        go_wp2
        go_quiet (fail)
        go_wp2
        go_roundw
        case rel => exact .inr (.inr (.inr ⟨rfl, E0.out, E1.out, EN.out, ext_trans HE.out (ext_drewN _ _)⟩))
        case measure => simp [intOf]
      · have hb : (x.c != y.c) = true := by simp [hn]
        have EN := Lib.hid hn
        clear hn
        go_wp2
        go_quiet (fail)
        go_wp2
        go_quiet (fail)
        go_wp2
        go_ret
        refine ⟨ret_bool ?_, ext_trans HB.out (ext_trans HE.out (ext_trans (ext_drewN _ _) (ext_drewN _ _)))⟩
        rw [lessB_lt]
        rw [turn_0 o ho1 ho2 x, turn_0 o ho1 ho2 y]
        exact (less_f2 x.f y.f E0.out E1.out EN.out).symm
    · have z0 := (ext_cell hE _ 0 l0).trans x0
      have z1 := (ext_cell hE _ 1 l0).trans x1
      have z2 := (ext_cell hE _ 2 l0).trans x2
      have v0 := (ext_cell hE _ 0 l1).trans y0
      have v1 := (ext_cell hE _ 1 l1).trans y1
      have v2 := (ext_cell hE _ 2 l1).trans y2
      have HE := Lib.hid hE
      have E0 := Lib.hid e0
      have E1 := Lib.hid e1
      have E2 := Lib.hid e2
      clear hE x0 x1 x2 y0 y1 y2 e0 e1 e2
      go_wp2
      go_ret
      refine ⟨ret_bool ?_, ext_trans HB.out HE.out⟩
      rw [lessB_lt]
      rw [turn_0 o ho1 ho2 x, turn_0 o ho1 ho2 y]
      exact (less_f3 x.f y.f E0.out E1.out E2.out).symm

theorem refless_1 (x y : Key) (w : World) : Calls Tryd.prog 13 #[.int .i64 1, K3 x.a x.b x.c, K3 y.a y.b y.c] w fun e w' => e = .returned (.bool (lessB 1 x y)) ∧ Ext w w' := by
  go_enter Tryd.func13, Tryd.ntmps13
  go_wp2
  refine wp_gen (fun W hW => ?_)
  have x0 : W.cell? ⟨w.heap.size, 0, none⟩ = some (.int .i64 x.a) := by rw [hW]; go_simp
  have x1 : W.cell? ⟨w.heap.size, 1, none⟩ = some (.int .i64 x.b) := by rw [hW]; go_simp
  have x2 : W.cell? ⟨w.heap.size, 2, none⟩ = some (.int .i64 x.c) := by rw [hW]; go_simp
  have y0 : W.cell? ⟨w.heap.size + 1, 0, none⟩ = some (.int .i64 y.a) := by rw [hW]; go_simp
  have y1 : W.cell? ⟨w.heap.size + 1, 1, none⟩ = some (.int .i64 y.b) := by rw [hW]; go_simp
  have y2 : W.cell? ⟨w.heap.size + 1, 2, none⟩ = some (.int .i64 y.c) := by rw [hW]; go_simp
  have HB := Lib.hid (show Ext w W by rw [hW]; exact ext_alloc (ext_alloc (ext_refl _) _) _)
  have l0 := World.block_lt_of_cell? _ _ x0
  have l1 := World.block_lt_of_cell? _ _ y0
  clear hW
  go_loopw [8] (fun i wr => (i = .int .i64 0 ∧  Ext W wr) ∨ (i = .int .i64 1 ∧ x.b = y.b ∧ Ext W wr) ∨ (i = .int .i64 2 ∧ x.b = y.b ∧ x.c = y.c ∧ Ext W wr) ∨ (i = .int .i64 3 ∧ x.b = y.b ∧ x.c = y.c ∧ x.a = y.a ∧ Ext W wr)) (fun i _ => 3 - (intOf i).toNat)
  case atStart => exact .inl ⟨rfl, ext_refl _⟩
  case round =>
    rcases hrel with ⟨rfl, hE⟩ | ⟨rfl, e0, hE⟩ | ⟨rfl, e0, e1, hE⟩ | ⟨rfl, e0, e1, e2, hE⟩
    · have z0 := (ext_cell hE _ 0 l0).trans x0
      have z1 := (ext_cell hE _ 1 l0).trans x1
      have z2 := (ext_cell hE _ 2 l0).trans x2
      have v0 := (ext_cell hE _ 0 l1).trans y0
      have v1 := (ext_cell hE _ 1 l1).trans y1
      have v2 := (ext_cell hE _ 2 l1).trans y2
      have HE := Lib.hid hE
      clear hE x0 x1 x2 y0 y1 y2 
      by_cases hn : x.b = y.b
      · have hb : (x.b != y.b) = false := by simp [hn]
        have EN := Lib.hid hn
        clear hn
        go_wp2
        go_quiet (fail)
        go_wp2
        go_roundw
        case rel => exact .inr (.inl ⟨rfl, EN.out, ext_trans HE.out (ext_drewN _ _)⟩)
        case measure => simp [intOf]
      · have hb : (x.b != y.b) = true := by simp [hn]
        have EN := Lib.hid hn
        clear hn
        go_wp2
        go_quiet (fail)
        go_wp2
        go_quiet (fail)
        go_wp2
        go_ret
        refine ⟨ret_bool ?_, ext_trans HB.out (ext_trans HE.out (ext_trans (ext_drewN _ _) (ext_drewN _ _)))⟩
        rw [lessB_lt]
        skip
        exact (less_f0 (x.turn 1).f (y.turn 1).f  EN.out).symm
    · have z0 := (ext_cell hE _ 0 l0).trans x0
      have z1 := (ext_cell hE _ 1 l0).trans x1
      have z2 := (ext_cell hE _ 2 l0).trans x2
      have v0 := (ext_cell hE _ 0 l1).trans y0
      have v1 := (ext_cell hE _ 1 l1).trans y1
      have v2 := (ext_cell hE _ 2 l1).trans y2
      have HE := Lib.hid hE
      have E0 := Lib.hid e0
      clear hE x0 x1 x2 y0 y1 y2 e0
      by_cases hn : x.c = y.c
      · have hb : (x.c != y.c) = false := by simp [hn]
        have EN := Lib.hid hn
        clear hn
        go_wp2
        go_quiet (fail)
        go_wp2
        go_roundw
        case rel => exact .inr (.inr (.inl ⟨rfl, E0.out, EN.out, ext_trans HE.out (ext_drewN _ _)⟩))
        case measure => simp [intOf]
      · have hb : (x.c != y.c) = true := by simp [hn]
        have EN := Lib.hid hn
        clear hn
        go_wp2
        go_quiet (fail)
        go_wp2
        go_quiet (fail)
        go_wp2
        go_ret
        refine ⟨ret_bool ?_, ext_trans HB.out (ext_trans HE.out (ext_trans (ext_drewN _ _) (ext_drewN _ _)))⟩
        rw [lessB_lt]
        skip
        exact (less_f1 (x.turn 1).f (y.turn 1).f E0.out EN.out).symm
    · have z0 := (ext_cell hE _ 0 l0).trans x0
      have z1 := (ext_cell hE _ 1 l0).trans x1
      have z2 := (ext_cell hE _ 2 l0).trans x2
      have v0 := (ext_cell hE _ 0 l1).trans y0
      have v1 := (ext_cell hE _ 1 l1).trans y1
      have v2 := (ext_cell hE _ 2 l1).trans y2
      have HE := Lib.hid hE
      have E0 := Lib.hid e0
      have E1 := Lib.hid e1
      clear hE x0 x1 x2 y0 y1 y2 e0 e1
      by_cases hn : x.a = y.a
      · have hb : (x.a != y.a) = false := by simp [hn]
        have EN := Lib.hid hn
        clear hn
        go_wp2
        go_quiet (fail)
        go_wp2
        go_roundw
        case rel => exact .inr (.inr (.inr ⟨rfl, E0.out, E1.out, EN.out, ext_trans HE.out (ext_drewN _ _)⟩))
        case measure => simp [intOf]
      · have hb : (x.a != y.a) = true := by simp [hn]
        have EN := Lib.hid hn
        clear hn
        go_wp2
        go_quiet (fail)
        go_wp2
        go_quiet (fail)
        go_wp2
        go_ret
        refine ⟨ret_bool ?_, ext_trans HB.out (ext_trans HE.out (ext_trans (ext_drewN _ _) (ext_drewN _ _)))⟩
        rw [lessB_lt]
        skip
        exact (less_f2 (x.turn 1).f (y.turn 1).f E0.out E1.out EN.out).symm
    · have z0 := (ext_cell hE _ 0 l0).trans x0
      have z1 := (ext_cell hE _ 1 l0).trans x1
      have z2 := (ext_cell hE _ 2 l0).trans x2
      have v0 := (ext_cell hE _ 0 l1).trans y0
      have v1 := (ext_cell hE _ 1 l1).trans y1
      have v2 := (ext_cell hE _ 2 l1).trans y2
      have HE := Lib.hid hE
      have E0 := Lib.hid e0
      have E1 := Lib.hid e1
      have E2 := Lib.hid e2
      clear hE x0 x1 x2 y0 y1 y2 e0 e1 e2
      go_wp2
      go_ret
      refine ⟨ret_bool ?_, ext_trans HB.out HE.out⟩
      rw [lessB_lt]
      skip
      exact (less_f3 (x.turn 1).f (y.turn 1).f E0.out E1.out E2.out).symm

theorem refless_2 (x y : Key) (w : World) : Calls Tryd.prog 13 #[.int .i64 2, K3 x.a x.b x.c, K3 y.a y.b y.c] w fun e w' => e = .returned (.bool (lessB 2 x y)) ∧ Ext w w' := by
  go_enter Tryd.func13, Tryd.ntmps13
  go_wp2
  refine wp_gen (fun W hW => ?_)
  have x0 : W.cell? ⟨w.heap.size, 0, none⟩ = some (.int .i64 x.a) := by rw [hW]; go_simp
  have x1 : W.cell? ⟨w.heap.size, 1, none⟩ = some (.int .i64 x.b) := by rw [hW]; go_simp
  have x2 : W.cell? ⟨w.heap.size, 2, none⟩ = some (.int .i64 x.c) := by rw [hW]; go_simp
  have y0 : W.cell? ⟨w.heap.size + 1, 0, none⟩ = some (.int .i64 y.a) := by rw [hW]; go_simp
  have y1 : W.cell? ⟨w.heap.size + 1, 1, none⟩ = some (.int .i64 y.b) := by rw [hW]; go_simp
  have y2 : W.cell? ⟨w.heap.size + 1, 2, none⟩ = some (.int .i64 y.c) := by rw [hW]; go_simp
  have HB := Lib.hid (show Ext w W by rw [hW]; exact ext_alloc (ext_alloc (ext_refl _) _) _)
  have l0 := World.block_lt_of_cell? _ _ x0
  have l1 := World.block_lt_of_cell? _ _ y0
  clear hW
  go_loopw [8] (fun i wr => (i = .int .i64 0 ∧  Ext W wr) ∨ (i = .int .i64 1 ∧ x.c = y.c ∧ Ext W wr) ∨ (i = .int .i64 2 ∧ x.c = y.c ∧ x.a = y.a ∧ Ext W wr) ∨ (i = .int .i64 3 ∧ x.c = y.c ∧ x.a = y.a ∧ x.b = y.b ∧ Ext W wr)) (fun i _ => 3 - (intOf i).toNat)
  case atStart => exact .inl ⟨rfl, ext_refl _⟩
  case round =>
    rcases hrel with ⟨rfl, hE⟩ | ⟨rfl, e0, hE⟩ | ⟨rfl, e0, e1, hE⟩ | ⟨rfl, e0, e1, e2, hE⟩
    · have z0 := (ext_cell hE _ 0 l0).trans x0
      have z1 := (ext_cell hE _ 1 l0).trans x1
      have z2 := (ext_cell hE _ 2 l0).trans x2
      have v0 := (ext_cell hE _ 0 l1).trans y0
      have v1 := (ext_cell hE _ 1 l1).trans y1
      have v2 := (ext_cell hE _ 2 l1).trans y2
      have HE := Lib.hid hE
      clear hE x0 x1 x2 y0 y1 y2 
      by_cases hn : x.c = y.c
      · have hb : (x.c != y.c) = false := by simp [hn]
        have EN := Lib.hid hn
        clear hn
        go_wp2
        go_quiet (fail)
        go_wp2
        go_roundw
        case rel => exact .inr (.inl ⟨rfl, EN.out, ext_trans HE.out (ext_drewN _ _)⟩)
        case measure => simp [intOf]
      · have hb : (x.c != y.c) = true := by simp [hn]
        have EN := Lib.hid hn
        clear hn
        go_wp2
        go_quiet (fail)
        go_wp2
        go_quiet (fail)
        go_wp2
        go_ret
        refine ⟨ret_bool ?_, ext_trans HB.out (ext_trans HE.out (ext_trans (ext_drewN _ _) (ext_drewN _ _)))⟩
        rw [lessB_lt]
        skip
        exact (less_f0 (x.turn 2).f (y.turn 2).f  EN.out).symm
    · have z0 := (ext_cell hE _ 0 l0).trans x0
      have z1 := (ext_cell hE _ 1 l0).trans x1
      have z2 := (ext_cell hE _ 2 l0).trans x2
      have v0 := (ext_cell hE _ 0 l1).trans y0
      have v1 := (ext_cell hE _ 1 l1).trans y1
      have v2 := (ext_cell hE _ 2 l1).trans y2
      have HE := Lib.hid hE
      have E0 := Lib.hid e0
      clear hE x0 x1 x2 y0 y1 y2 e0
      by_cases hn : x.a = y.a
      · have hb : (x.a != y.a) = false := by simp [hn]
        have EN := Lib.hid hn
        clear hn
        go_wp2
        go_quiet (fail)
        go_wp2
        go_roundw
        case rel => exact .inr (.inr (.inl ⟨rfl, E0.out, EN.out, ext_trans HE.out (ext_drewN _ _)⟩))
        case measure => simp [intOf]
      · have hb : (x.a != y.a) = true := by simp [hn]
        have EN := Lib.hid hn
        clear hn
        go_wp2
        go_quiet (fail)
        go_wp2
        go_quiet (fail)
        go_wp2
        go_ret
        refine ⟨ret_bool ?_, ext_trans HB.out (ext_trans HE.out (ext_trans (ext_drewN _ _) (ext_drewN _ _)))⟩
        rw [lessB_lt]
        skip
        exact (less_f1 (x.turn 2).f (y.turn 2).f E0.out EN.out).symm
    · have z0 := (ext_cell hE _ 0 l0).trans x0
      have z1 := (ext_cell hE _ 1 l0).trans x1
      have z2 := (ext_cell hE _ 2 l0).trans x2
      have v0 := (ext_cell hE _ 0 l1).trans y0
      have v1 := (ext_cell hE _ 1 l1).trans y1
      have v2 := (ext_cell hE _ 2 l1).trans y2
      have HE := Lib.hid hE
      have E0 := Lib.hid e0
      have E1 := Lib.hid e1
      clear hE x0 x1 x2 y0 y1 y2 e0 e1
      by_cases hn : x.b = y.b
      · have hb : (x.b != y.b) = false := by simp [hn]
        have EN := Lib.hid hn
        clear hn
        go_wp2
        go_quiet (fail)
        go_wp2
        go_roundw
        case rel => exact .inr (.inr (.inr ⟨rfl, E0.out, E1.out, EN.out, ext_trans HE.out (ext_drewN _ _)⟩))
        case measure => simp [intOf]
      · have hb : (x.b != y.b) = true := by simp [hn]
        have EN := Lib.hid hn
        clear hn
        go_wp2
        go_quiet (fail)
        go_wp2
        go_quiet (fail)
        go_wp2
        go_ret
        refine ⟨ret_bool ?_, ext_trans HB.out (ext_trans HE.out (ext_trans (ext_drewN _ _) (ext_drewN _ _)))⟩
        rw [lessB_lt]
        skip
        exact (less_f2 (x.turn 2).f (y.turn 2).f E0.out E1.out EN.out).symm
    · have z0 := (ext_cell hE _ 0 l0).trans x0
      have z1 := (ext_cell hE _ 1 l0).trans x1
      have z2 := (ext_cell hE _ 2 l0).trans x2
      have v0 := (ext_cell hE _ 0 l1).trans y0
      have v1 := (ext_cell hE _ 1 l1).trans y1
      have v2 := (ext_cell hE _ 2 l1).trans y2
      have HE := Lib.hid hE
      have E0 := Lib.hid e0
      have E1 := Lib.hid e1
      have E2 := Lib.hid e2
      clear hE x0 x1 x2 y0 y1 y2 e0 e1 e2
      go_wp2
      go_ret
      refine ⟨ret_bool ?_, ext_trans HB.out HE.out⟩
      rw [lessB_lt]
      skip
      exact (less_f3 (x.turn 2).f (y.turn 2).f E0.out E1.out E2.out).symm

theorem refless_any (o : Int) (x y : Key) (w : World) : Calls Tryd.prog 13 #[.int .i64 o, K3 x.a x.b x.c, K3 y.a y.b y.c] w fun e w' => e = .returned (.bool (lessB o x y)) ∧ Ext w w' := by
  by_cases h1 : o = 1
  · subst h1; exact refless_1 x y w
  · by_cases h2 : o = 2
    · subst h2; exact refless_2 x y w
    · exact refless_0 o (by simpa using h1) (by simpa using h2) x y w
end Go.Proofs.YtfaegjlolhpofaaDoor
