/- Same, of two contents that are alike. -/
import Derived.Test.YtojgbphmkloicaaCe
import Derived.Test.YtojgbphmkloicaaCh
namespace Go.Proofs.Ytojgbphmkloicaa
open Go Go.RowKit Go.Sort
set_option maxHeartbeats 4000000
theorem eqI3 (d : Nat) (x y : Key) (w : World) : (Op.eqItems (d + 1) 3 1 #[.int .i64 x.a, .int .i64 x.b, .int .i64 x.c] #[.int .i64 y.a, .int .i64 y.b, .int .i64 y.c] [0, 1, 2]).run Try.prog w = .ok (decide (x = y)) w := by
  have hu : Try.prog.underlying 3 = some (.int .i64) := by kernel_rfl
  have he : ∀ (a b : Int) (w : World), (Op.equalIn (d + 1) 3 (.int .i64 a) (.int .i64 b)).run Try.prog w = .ok (a == b) w := fun a b w => run_equalIn_int (P := Try.prog) w d 3 .i64 .i64 a b hu
  obtain ⟨a, b, c⟩ := x
  obtain ⟨a', b', c'⟩ := y
  simp only [Op.eqItems, Sem.run_bind, Nat.mul_one, part0, he, Result.andThen_ok]
  by_cases h1 : a = a'
  · by_cases h2 : b = b'
    · by_cases h3 : c = c' <;> simp [h1, h2, h3, part1, part2, he]
    · simp [h1, h2, part1, he]
  · simp [h1]
theorem eqKd (d : Nat) (x y : Key) (w : World) : (Op.equalIn (d + 2) 36 (.agg #[.int .i64 x.a, .int .i64 x.b, .int .i64 x.c]) (.agg #[.int .i64 y.a, .int .i64 y.b, .int .i64 y.c])).run Try.prog w = .ok (decide (x = y)) w := by
  obtain ⟨i, hi⟩ := Option.isSome_iff_exists.1 (show (Try.prog.info? 3).isSome = true by kernel_rfl)
  rw [run_equalIn_array w (d + 1) _ _ (show Try.prog.underlying 36 = some (.array 3 3) by kernel_rfl) hi, show Try.prog.cellsOf 3 = 1 by kernel_rfl]
  exact eqI3 d x y w
theorem eqEn (x y : Key × Nat) (w : World) : (Op.equalIn 10000 38 (.agg #[.int .i64 x.1.a, .int .i64 x.1.b, .int .i64 x.1.c, .int .i64 (x.2 : Int)]) (.agg #[.int .i64 y.1.a, .int .i64 y.1.b, .int .i64 y.1.c, .int .i64 (y.2 : Int)])).run Try.prog w = .ok (decide (x = y)) w := by
  have hu : Try.prog.underlying 3 = some (.int .i64) := by kernel_rfl
  have he : ∀ (a b : Int) (w : World), (Op.equalIn 9999 3 (.int .i64 a) (.int .i64 b)).run Try.prog w = .ok (a == b) w := fun a b w => run_equalIn_int (P := Try.prog) w 9998 3 .i64 .i64 a b hu
  have hk : ∀ (x y : Key) (w : World), (Op.equalIn 9999 36 (.agg #[.int .i64 x.a, .int .i64 x.b, .int .i64 x.c]) (.agg #[.int .i64 y.a, .int .i64 y.b, .int .i64 y.c])).run Try.prog w = .ok (decide (x = y)) w := fun x y w => eqKd 9997 x y w
  have p0 : ∀ (w : World) (a b c d : Value), (part 36 #[a, b, c, d] 0).run Try.prog w = .ok (.agg #[a, b, c]) w := fun w a b c d => by kernel_rfl
  have p3 : ∀ (w : World) (a b c d : Value), (part 3 #[a, b, c, d] 3).run Try.prog w = .ok d w := fun w a b c d => by kernel_rfl
  have hst : Try.prog.stoodInHeld 38 = false := by kernel_rfl
  rw [show (10000 : Nat) = 9999 + 1 from rfl, Op.equalIn]
  simp only [Sem.run_bind, run_underlying Try.underlying38, Result.andThen_ok]
  simp [hst]
  simp only [p0, p3, Result.andThen_ok, he, hk]
  obtain ⟨x1, x2⟩ := x
  obtain ⟨y1, y2⟩ := y
  by_cases e1 : x1 = y1
  · by_cases e2 : x2 = y2
    · simp [e1, e2]
    · have : ¬ (x2 : Int) = (y2 : Int) := by omega
      simp [e1, e2, this]
  · simp [e1]
theorem equal_same (v v' : Value) (L : List (Key × Nat)) (w : World) (h : rowE elN w v L) (h' : rowE elN w v' L) (hm : L.length ≤ 100000) :
    Calls Try.prog 22 #[v, v'] w fun e w' => e = .returned (.bool true) ∧ Ext w w' := by
  obtain ⟨A0, c0, hv0⟩ := rowE_form h
  obtain ⟨A1, c1, hv1⟩ := rowE_form h'
  obtain ⟨n, hn⟩ : ∃ n, n = L.length := ⟨_, rfl⟩
  rw [← hn] at hv0 hv1 hm
  subst hv0
  subst hv1
  have H := Lib.hid h
  have H' := Lib.hid h'
  have HN := Lib.hid hn
  clear h h' hn
  go_enter Try.func22, Try.ntmps22
  go_wp2
  go_loopw [13] (fun x wr => ∃ j : Nat, j ≤ n ∧ x = .int .i64 (j : Int) ∧ Ext w wr) (fun x _ => n - (intOf x).toNat)
  case atStart => exact ⟨0, by omega, rfl, ext_refl _⟩
  case round =>
    rename World => wi
    obtain ⟨j, hj, rfl, hE⟩ := hrel
    have HE := Lib.hid hE
    by_cases hlt : j < n
    · have hji : (j : Int) < (n : Int) := by omega
      have hj0 : (0 : Int) ≤ (j : Int) := by omega
      obtain ⟨x, hx⟩ : ∃ x, L[j]? = some x := ⟨_, List.getElem?_eq_getElem (by rw [← HN.out]; exact hlt)⟩
      have hne : L ≠ [] := fun e => by rw [e] at hx; simp at hx
      have hr := rowE_ext H.out hE
      have hr' := rowE_ext H'.out hE
      obtain ⟨g, hg, lg⟩ := rowE_some hr hne
      obtain ⟨g', hg', lg'⟩ := rowE_some hr' hne
      subst hg
      subst hg'
      have k0 : wi.cell? ⟨g, j * 4, none⟩ = some (.int .i64 x.1.a) := rowE_cell hr hx (j := 0) (u := .int .i64 x.1.a) rfl
      have k1 : wi.cell? ⟨g, j * 4 + 1, none⟩ = some (.int .i64 x.1.b) := rowE_cell hr hx (j := 1) (u := .int .i64 x.1.b) rfl
      have k2 : wi.cell? ⟨g, j * 4 + 2, none⟩ = some (.int .i64 x.1.c) := rowE_cell hr hx (j := 2) (u := .int .i64 x.1.c) rfl
      have k3' : wi.cell? ⟨g, j * 4 + 3, none⟩ = some (.int .i64 (x.2 : Int)) := rowE_cell hr hx (j := 3) (u := .int .i64 (x.2 : Int)) rfl
      have m0 : wi.cell? ⟨g', j * 4, none⟩ = some (.int .i64 x.1.a) := rowE_cell hr' hx (j := 0) (u := .int .i64 x.1.a) rfl
      have m1 : wi.cell? ⟨g', j * 4 + 1, none⟩ = some (.int .i64 x.1.b) := rowE_cell hr' hx (j := 1) (u := .int .i64 x.1.b) rfl
      have m2 : wi.cell? ⟨g', j * 4 + 2, none⟩ = some (.int .i64 x.1.c) := rowE_cell hr' hx (j := 2) (u := .int .i64 x.1.c) rfl
      have m3 : wi.cell? ⟨g', j * 4 + 3, none⟩ = some (.int .i64 (x.2 : Int)) := rowE_cell hr' hx (j := 3) (u := .int .i64 (x.2 : Int)) rfl
      have heq : ∀ w : World, (Op.equalIn 10000 38 (.agg #[.int .i64 x.1.a, .int .i64 x.1.b, .int .i64 x.1.c, .int .i64 (x.2 : Int)]) (.agg #[.int .i64 x.1.a, .int .i64 x.1.b, .int .i64 x.1.c, .int .i64 (x.2 : Int)])).run Try.prog w = .ok true w := fun w => by
        have := eqEn x x w
        rwa [decide_eq_true rfl] at this
      clear hx hr hr' hne hE
      have hgc := cell_grown
      go_wp2
      refine wp_region_free 9 [0, 1, 2, 3, 4, 5, 6, 7, 8] [] (by kernel_rfl) (by kernel_rfl) ?_
      repeat (refine wpLoose_step rfl (fun K hK => ?_); (try simp only [Oper.quietAt, Oper.quietUpon]); go_simp; (refine hK _ ?_; clear hK K))
      refine wpLoose_nil (wpFresh_nil (fun w2 hE2 _ => ?_))
      simp only [List.drop_succ_cons, List.drop_zero]
      have HE2 := Lib.hid (ext_trans HE.out hE2)
      clear hE2 hgc k0 k1 k2 k3' m0 m1 m2 m3 lg lg' heq
      go_wp2
      go_roundw
      case rel => exact ⟨j + 1, by omega, by go_num, HE2.out⟩
      case measure => simp [intOf]; omega
    · have h5 : j = n := by omega
      subst h5
      clear hE
      go_wp2
      refine bodyPost_ret (results_tmp rfl _ _ _) rfl ?_
      exact ⟨rfl, HE.out⟩
theorem same_any (v v' : Value) (L : List (Key × Nat)) (w : World) (h : rowE elN w v L) (h' : rowE elN w v' L) (hm : L.length ≤ 100000) :
    Calls Try.prog 12 #[v, v'] w fun e w' => e = .returned (.bool true) ∧ Ext w w' := by
  have C := Lib.hid (equal_same v v' L w h h' hm)
  clear h h'
  go_enter Try.func12, Try.ntmps12
  go_wp2_with fail
  refine C.out.mono ?_
  rintro e w1 ⟨rfl, hE⟩
  have HE := Lib.hid hE
  clear hE
  go_wp2
  refine bodyPost_ret (results_tmp rfl _ _ _) rfl ?_
  exact ⟨rfl, HE.out⟩
end Go.Proofs.Ytojgbphmkloicaa
