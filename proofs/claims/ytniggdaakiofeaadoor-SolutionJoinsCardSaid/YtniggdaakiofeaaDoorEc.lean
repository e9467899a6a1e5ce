/- The document's Same; Less. -/
import Derived.ChangeKeysEq
import Derived.Test.YtniggdaakiofeaaDoorTc
namespace Go.Proofs.YtniggdaakiofeaaDoor
open Go Go.RowKit Go.Sort
set_option maxHeartbeats 4000000
/- of this seat alone: 80 -/

theorem ba_beq (a : ByteArray) : (a == a) = true := by
  have : (a == a) = (a.data == a.data) := rfl
  rw [this]; simp
theorem ba_bne {a b : ByteArray} (h : a ≠ b) : (a == b) = false := by
  have : (a == b) = (a.data == b.data) := rfl
  rw [this]
  refine Bool.eq_false_iff.2 (fun e => h (ByteArray.ext (by simpa using e)))
theorem eqPd (d : Nat) (a1 b1 : ByteArray) (a2 b2 : Int) (w : World) : (Op.equalIn (d + 2) 81 (.agg #[.string a1, .int .i64 a2]) (.agg #[.string b1, .int .i64 b2])).run Tryd.prog w = .ok (decide ((a1, a2) = (b1, b2))) w := by
  have h3 : ∀ (x y : Int) (w : World), (Op.equalIn (d + 1) 3 (.int .i64 x) (.int .i64 y)).run Tryd.prog w = .ok (x == y) w := fun x y w => run_equalIn_int (P := Tryd.prog) w d 3 .i64 .i64 x y Tryd.underlying3
  have h4 : ∀ (x y : ByteArray) (w : World), (Op.equalIn (d + 1) 9 (.string x) (.string y)).run Tryd.prog w = .ok (x == y) w := fun x y w => by
    rw [Op.equalIn]
    simp [run_underlying Tryd.underlying9]
  have p0 : ∀ (w : World) (x y : Value), (part 9 #[x, y] 0).run Tryd.prog w = .ok x w := fun w x y => by kernel_rfl
  have p1 : ∀ (w : World) (x y : Value), (part 3 #[x, y] 1).run Tryd.prog w = .ok y w := fun w x y => by kernel_rfl
  have hst : Tryd.prog.stoodInHeld 81 = false := by kernel_rfl
  rw [Op.equalIn]
  simp only [Sem.run_bind, run_underlying Tryd.underlying81, Result.andThen_ok]
  simp [hst]
  simp only [p0, p1, Result.andThen_ok, h3, h4]
  by_cases e1 : a1 = b1
  · have hb : (a1 == b1) = true := by rw [e1]; exact ba_beq b1
    by_cases e2 : a2 = b2 <;> simp [hb, e1, e2, ba_beq]
  · have hb : (a1 == b1) = false := ba_bne e1
    simp [hb, e1]
theorem eqP (p q : VarN) (w : World) : (Op.equalIn 10000 81 (.agg #[.string p.1, .int .i64 p.2]) (.agg #[.string q.1, .int .i64 q.2])).run Tryd.prog w = .ok (decide (p = q)) w := eqPd 9998 p.1 q.1 p.2 q.2 w
theorem rsame_any (av bv : Value) (a b : List VarN) (w : World) (ha : rowE elP w av a) (hb : rowE elP w bv b) (h1 : a.length ≤ 1000000) (h2 : b.length ≤ 1000000) :
    Calls Tryd.prog 52 #[av, bv] w fun e w' => e = .returned (.bool (decide (a = b))) ∧ Ext w w' := by
  obtain ⟨A, c, rfl⟩ := rowE_form ha
  obtain ⟨B, d, rfl⟩ := rowE_form hb
  have HA := Lib.hid ha
  have HB := Lib.hid hb
  clear ha hb
  go_enter Tryd.func52, Tryd.ntmps52
  by_cases hl : a.length = b.length
  · have hz : ((a.length : Int) != (b.length : Int)) = false := by rw [hl]; simp
    have HL := Lib.hid hl
    clear hl
    go_wp2
    go_loopw [13] (fun z wr => ∃ j : Nat, j ≤ a.length ∧ z = .int .i64 j ∧ a.take j = b.take j ∧ Ext w wr) (fun z _ => a.length - (intOf z).toNat)
    case atStart => exact ⟨0, Nat.zero_le _, rfl, rfl, ext_refl _⟩
    case round =>
      rename World => wo
      obtain ⟨j, hj, rfl, hpre, hE⟩ := hrel
      have HP := Lib.hid hpre
      have HE := Lib.hid hE
      clear hpre hE
      by_cases hlt : j < a.length
      · have hji : (j : Int) < (a.length : Int) := by omega
        have hji2 : (j : Int) < (b.length : Int) := by have := HL.out; omega
        have hj0 : (0 : Int) ≤ (j : Int) := by omega
        obtain ⟨p, hp⟩ : ∃ q, a[j]? = some q := ⟨_, List.getElem?_eq_getElem hlt⟩
        obtain ⟨q, hq⟩ : ∃ q, b[j]? = some q := ⟨_, List.getElem?_eq_getElem (by have := HL.out; omega)⟩
        obtain ⟨g, rfl, hg⟩ := rowE_some HA.out (fun e => by rw [e] at hp; simp at hp)
        obtain ⟨g', rfl, hg'⟩ := rowE_some HB.out (fun e => by rw [e] at hq; simp at hq)
        obtain ⟨q0, q1⟩ := rowP_cell (rowE_ext HA.out HE.out) hp
        obtain ⟨q2, q3⟩ := rowP_cell (rowE_ext HB.out HE.out) hq
        have HPJ := Lib.hid hp
        have HQJ := Lib.hid hq
        have heq := eqP p q
        obtain ⟨be, hbe⟩ : ∃ be, be = decide (p = q) := ⟨_, rfl⟩
        rw [← hbe] at heq
        have HBE := Lib.hid hbe
        clear hp hq hbe
        obtain ⟨k1, n1⟩ := p
        obtain ⟨k2, n2⟩ := q
        simp only at q0 q1 q2 q3 heq
        have lg := ext_lt HE.out hg
        have lg' := ext_lt HE.out hg'
        have hgc := cell_grown
        go_wp2
        refine wp_region_free 9 [0, 1, 2, 3, 4, 5, 6, 7, 8] [] (by kernel_rfl) (by kernel_rfl) ?_
        repeat (refine wpLoose_step rfl (fun K hK => ?_); (try simp only [Oper.quietAt, Oper.quietUpon]); go_simp; (refine hK _ ?_; clear hK K))
        refine wpLoose_nil (wpFresh_nil (fun w3 hE3 _ => ?_))
        have HE3 := Lib.hid (ext_trans HE.out hE3)
        clear hE3 q0 q1 q2 q3 hgc heq lg lg'
        simp only [List.drop_succ_cons, List.drop_zero]
        refine wpList_nil ?_
        cases be
        · go_wp2
          refine bodyPost_ret (results_tmp rfl _ _ _) rfl ?_
          exact ⟨by rw [decide_eq_false (fun e => by have h := HPJ.out; rw [e, HQJ.out] at h; exact (of_decide_eq_false HBE.out.symm) (Option.some.inj h).symm)]; rfl, HE3.out⟩
        · go_wp2
          go_roundw
          case rel => exact ⟨j + 1, by omega, by go_num, by rw [List.take_add_one, List.take_add_one, HPJ.out, HQJ.out, HP.out, of_decide_eq_true HBE.out.symm], HE3.out⟩
          case measure => simp [intOf]; omega
      · obtain rfl : j = a.length := by omega
        have HD := Lib.hid (show a = b by have h := HP.out; rw [List.take_length, HL.out, List.take_length] at h; exact h)
        go_wp2
        refine bodyPost_ret (results_tmp rfl _ _ _) rfl ?_
        exact ⟨by rw [decide_eq_true HD.out]; rfl, HE.out⟩
  · have hz : ((a.length : Int) != (b.length : Int)) = true := by simp; omega
    have HL := Lib.hid hl
    clear hl
    go_wp2
    refine bodyPost_ret (results_tmp rfl _ _ _) rfl ?_
    exact ⟨by rw [decide_eq_false (fun e => HL.out (by rw [e]))]; rfl, ext_refl _⟩
end Go.Proofs.YtniggdaakiofeaaDoor
