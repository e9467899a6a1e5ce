/- The law Goods. -/
import Derived.Test.YtniggdaakiofeaaSs
namespace Go.Proofs.Ytniggdaakiofeaa
open Go Go.RowKit Go.Sort
set_option maxHeartbeats 4000000

def geN (m : Int) : Bool := decide (-1 ≤ m)
def rowOk (n : Nat) (row : List Int) : Bool := (row.length == n) && row.all geN
theorem range_succ_all (f : Nat → Bool) (j : Nat) : (List.range (j + 1)).all f = ((List.range j).all f && f j) := by
  rw [List.range_succ, List.all_append]; simp
theorem take_succ_all {α : Type} {L : List α} {j : Nat} {x : α} (h : L[j]? = some x) (f : α → Bool) : (L.take (j + 1)).all f = ((L.take j).all f && f x) := by
  rw [List.take_add_one, h, List.all_append]; simp
theorem goodB_is (V : List ByteArray) (R : List (List Int)) : goodB V R = (riseB V && R.all (rowOk V.length)) := by
  unfold goodB
  congr 1
  induction R with
  | nil => rfl
  | cons r R ih =>
    rw [List.any_cons, List.all_cons, Bool.not_or, ih]
    congr 1
    unfold badRow rowOk
    rw [Bool.not_or]
    congr 1
    · simp [bne]
    · induction r with
      | nil => rfl
      | cons m r ih2 =>
        rw [List.any_cons, List.all_cons, Bool.not_or, ih2]
        congr 1
        unfold ltN geN
        by_cases h : m < -1
        · rw [decide_eq_true h, decide_eq_false (by omega)]; rfl
        · rw [decide_eq_false h, decide_eq_true (by omega)]; rfl
set_option maxRecDepth 100000 in
theorem goods_law (v0 v1 : Value) (L : List ByteArray) (R : List (List Int)) (w : World) (h0 : RdS w v0 L) (h1 : RdW w v1 R) (hl : L.length ≤ 9223372036854775807) (hr : R.length ≤ 9223372036854775807) (hrl : ∀ x ∈ R, x.length ≤ 9223372036854775807) :
    Calls Try.prog 3 #[v0, v1] w fun e w' => e = .returned (.bool true) ∧ Ext w w' := by
  obtain ⟨A, c, rfl⟩ := rdS_form h0
  obtain ⟨B, d, rfl⟩ := rdW_form h1
  have HL := Lib.hid h0
  have HR := Lib.hid h1
  have HRL := Lib.hid hrl
  clear h0 h1 hrl
  by_cases hbig : 20 < L.length ∨ 20 < R.length
  · have h12 : 20 < L.length ∨ (¬ 20 < L.length ∧ 20 < R.length) := by omega
    clear hbig
    rcases h12 with ha | ⟨hb, ha⟩
    all_goals
      go_enter Try.func3, Try.ntmps3
      go_wp2_with fail
      refine (awake_any w).mono ?_
      rintro e w1 ⟨rfl, hE1⟩
      have HE1 := Lib.hid hE1
      clear hE1
      go_wp2_with fail
      refine (awake_any w1).mono ?_
      rintro e w2 ⟨rfl, hE2⟩
      have HE2 := Lib.hid (ext_trans HE1.out hE2)
      clear hE2
      go_wp2
      refine bodyPost_ret (results_tmp rfl _ _ _) rfl ?_
      exact ⟨rfl, HE2.out⟩
  have hl20 : ¬ 20 < L.length := by omega
  have hr20 : ¬ 20 < R.length := by omega
  clear hbig
  go_enter Try.func3, Try.ntmps3
  go_wp2_with fail
  refine (awake_any w).mono ?_
  rintro e w1 ⟨rfl, hE1⟩
  have HE1 := Lib.hid hE1
  clear hE1
  go_wp2
  go_loopw [26, 5] (fun z y wr => ∃ j : Nat, j ≤ L.length ∧ z = .int .i64 j ∧ y = .bool ((List.range j).all (okAt L)) ∧ Ext w wr) (fun z _ _ => L.length - (intOf z).toNat)
  case atStart => exact ⟨0, Nat.zero_le _, rfl, rfl, HE1.out⟩
  case round =>
    rename World => wo
    obtain ⟨j, hj, rfl, rfl, hE⟩ := hrel
    have HE := Lib.hid hE
    clear hE
    by_cases hlt : j < L.length
    · have hji : (j : Int) < (L.length : Int) := by omega
      have hj0 : (0 : Int) ≤ (j : Int) := by omega
      have HS := Lib.hid (range_succ_all (okAt L) j)
      obtain ⟨g, hg⟩ : ∃ g, g = (List.range j).all (okAt L) := ⟨_, rfl⟩
      rw [← hg] at HS ⊢
      clear hg
      have hgc := cell_grown
      have hcase : g = false ∨ (g = true ∧ j = 0) ∨ (g = true ∧ 0 < j) := by
        cases g
        · exact .inl rfl
        · rcases Nat.eq_zero_or_pos j with h | h
          · exact .inr (.inl ⟨rfl, h⟩)
          · exact .inr (.inr ⟨rfl, h⟩)
      rcases hcase with rfl | ⟨rfl, h0⟩ | ⟨rfl, h0⟩
      · go_wp2
        refine wp_region_free 18 [0, 1, 2, 3, 4, 5, 6, 7, 8, 9, 10, 11, 12, 13, 14, 15, 16, 17] [] (by kernel_rfl) (by kernel_rfl) ?_
        repeat (refine wpLoose_step rfl (fun K hK => ?_); (try simp only [Oper.quietAt, Oper.quietUpon]); go_simp; (refine hK _ ?_; clear hK K))
        refine wpLoose_nil (wpFresh_nil (fun w3 hE3 _ => ?_))
        have HE3 := Lib.hid (ext_trans HE.out hE3)
        clear hE3 hgc
        simp only [List.drop_succ_cons, List.drop_zero]
        refine wpList_nil ?_
        go_wp2
        go_roundw
        case rel => exact ⟨j + 1, by omega, by go_num, by rw [HS.out]; rfl, HE3.out⟩
        case measure => simp [intOf]; omega
      · have hb0 : ((j : Int) == 0) = true := by rw [beq_iff_eq]; omega
        have HJ0 := Lib.hid h0
        clear h0
        go_wp2
        refine wp_region_free 18 [0, 1, 2, 3, 4, 5, 6, 7, 8, 9, 10, 11, 12, 13, 14, 15, 16, 17] [] (by kernel_rfl) (by kernel_rfl) ?_
        repeat (refine wpLoose_step rfl (fun K hK => ?_); (try simp only [Oper.quietAt, Oper.quietUpon]); go_simp; (refine hK _ ?_; clear hK K))
        refine wpLoose_nil (wpFresh_nil (fun w3 hE3 _ => ?_))
        have HE3 := Lib.hid (ext_trans HE.out hE3)
        clear hE3 hgc
        simp only [List.drop_succ_cons, List.drop_zero]
        refine wpList_nil ?_
        go_wp2
        go_roundw
        case rel => exact ⟨j + 1, by omega, by go_num, by rw [HS.out, HJ0.out]; rfl, HE3.out⟩
        case measure => simp [intOf]; omega
      · have hb0 : ((j : Int) == 0) = false := by rw [beq_eq_false_iff_ne]; omega
        have hjne : ¬ j = 0 := by omega
        have hm1 : (1 : Int) ≤ (j : Int) := by omega
        have hm2 : (j : Int) - 1 < (L.length : Int) := by omega
        have hmw : IntKind.i64.wrap ((j : Int) - 1) = (j : Int) - 1 := IntWalk.i64_in _ (by omega)
        have hmn : ((j : Int) - 1).toNat = j - 1 := by omega
        obtain ⟨x, hx⟩ : ∃ x, L[j - 1]? = some x := ⟨_, List.getElem?_eq_getElem (by omega)⟩
        obtain ⟨y, hy⟩ : ∃ y, L[j]? = some y := ⟨_, List.getElem?_eq_getElem hlt⟩
        have hvw := rdS_ext HL.out HE.out
        obtain ⟨b, off, rfl, hb, q2⟩ := rdS_at hvw hx
        obtain ⟨b', off', hbb, hb', q3⟩ := rdS_at hvw hy
        simp only [Option.some.injEq, Addr.mk.injEq, and_true] at hbb
        obtain ⟨rfl, rfl⟩ := hbb
        have hls : Op.bytesLess x.toList y.toList = true ∧ okAt L j = true ∨ Op.bytesLess x.toList y.toList = false ∧ okAt L j = false := by
          cases h : Op.bytesLess x.toList y.toList
          · exact .inr ⟨rfl, ok_no h0 hx hy h⟩
          · exact .inl ⟨rfl, ok_yes hx hy h⟩
        clear hx hy hvw hb'
        rcases hls with ⟨hls, hok⟩ | ⟨hls, hok⟩
        all_goals
          have HOK := Lib.hid hok
          clear hok
          go_wp2
          refine wp_region_free 18 [0, 1, 2, 3, 4, 5, 6, 7, 8, 9, 10, 11, 12, 13, 14, 15, 16, 17] [] (by kernel_rfl) (by kernel_rfl) ?_
          repeat (refine wpLoose_step rfl (fun K hK => ?_); (try simp only [Oper.quietAt, Oper.quietUpon]); go_simp; (refine hK _ ?_; clear hK K))
          refine wpLoose_nil (wpFresh_nil (fun w3 hE3 _ => ?_))
          have HE3 := Lib.hid (ext_trans HE.out hE3)
          clear hE3 hgc q2 q3
          simp only [List.drop_succ_cons, List.drop_zero]
          refine wpList_nil ?_
          go_wp2
          go_roundw
          case rel => exact ⟨j + 1, by omega, by go_num, by rw [HS.out, HOK.out]; rfl, HE3.out⟩
          case measure => simp [intOf]; omega
    · obtain rfl : j = L.length := by omega
      have HG0 := Lib.hid (show (List.range L.length).all (okAt L) = riseB L from rfl)
      rw [HG0.out]
      obtain ⟨g0, hg0⟩ : ∃ g0, g0 = riseB L := ⟨_, rfl⟩
      rw [← hg0]
      have HG := Lib.hid hg0
      clear hg0 HG0
      go_wp2
      go_loopw [49, 5] (fun z y wr => ∃ i : Nat, i ≤ R.length ∧ z = .int .i64 i ∧ y = .bool (g0 && (R.take i).all (rowOk L.length)) ∧ Ext w wr) (fun z _ _ => R.length - (intOf z).toNat)
      case atStart => exact ⟨0, Nat.zero_le _, rfl, by simp, HE.out⟩
      case round =>
        rename World => wi
        obtain ⟨i, hi, rfl, rfl, hE⟩ := hrel
        have HEI := Lib.hid hE
        clear hE
        by_cases hil : i < R.length
        · have hii : (i : Int) < (R.length : Int) := by omega
          have hi0 : (0 : Int) ≤ (i : Int) := by omega
          obtain ⟨row, hrow⟩ : ∃ row, R[i]? = some row := ⟨_, List.getElem?_eq_getElem hil⟩
          have hrwl := HRL.out row (List.mem_of_getElem? hrow)
          obtain ⟨b, off, X, k, rfl, hb, hc, hri⟩ := rdW_at (rdW_ext HR.out HEI.out) hrow
          have HT := Lib.hid (take_succ_all hrow (rowOk L.length))
          have HRI := Lib.hid hri
          obtain ⟨g1, hg1⟩ : ∃ g1, g1 = (g0 && (R.take i).all (rowOk L.length)) := ⟨_, rfl⟩
          rw [← hg1]
          have HG1 := Lib.hid hg1
          have hlen : ((row.length : Int) == (L.length : Int)) = (row.length == L.length) := by
            rw [Bool.eq_iff_iff, beq_iff_eq, beq_iff_eq]; omega
          obtain ⟨e1, he1⟩ : ∃ e1, e1 = (row.length == L.length) := ⟨_, rfl⟩
          rw [← he1] at hlen
          have HE1' := Lib.hid he1
          clear hrow hri hg1 he1
          cases g1
          · have HDUMMY := HG1
            go_wp2
            clear hb hc
            go_loopw [63, 5] (fun z y wr => ∃ m : Nat, m ≤ row.length ∧ z = .int .i64 m ∧ y = .bool (false && (row.take m).all geN) ∧ Ext wi wr) (fun z _ _ => row.length - (intOf z).toNat)
            case atStart => exact ⟨0, Nat.zero_le _, rfl, by simp, ext_refl _⟩
            case round =>
              rename World => wj
              obtain ⟨m, hm, rfl, rfl, hE⟩ := hrel
              have HEJ := Lib.hid hE
              clear hE
              by_cases hml : m < row.length
              · have hmi : (m : Int) < (row.length : Int) := by omega
                have hm0 : (0 : Int) ≤ (m : Int) := by omega
                obtain ⟨n, hn⟩ : ∃ n, row[m]? = some n := ⟨_, List.getElem?_eq_getElem hml⟩
                obtain ⟨b2, off2, rfl, hb2, hc2⟩ := rdI_at (rdI_ext HRI.out HEJ.out) hn
                have HS := Lib.hid (take_succ_all hn geN)
                obtain ⟨g3, hg3⟩ : ∃ g3, g3 = (false && (row.take m).all geN) := ⟨_, rfl⟩
                rw [← hg3]
                have HG3 := Lib.hid hg3
                have hge : (-1 ≤ n ∧ geN n = true) ∨ (¬ -1 ≤ n ∧ geN n = false) := by
                  by_cases h : -1 ≤ n
                  · exact .inl ⟨h, by simpa [geN] using h⟩
                  · exact .inr ⟨h, by simpa [geN] using h⟩
                clear hn hg3
                cases g3
                · clear hge
                  go_wp2
                  go_roundw
                  case rel => exact ⟨m + 1, by omega, by go_num, by rw [HS.out, ← Bool.and_assoc, ← HG3.out]; rfl, HEJ.out⟩
                  case measure => simp [intOf]; omega
                · rcases hge with ⟨hge, hok⟩ | ⟨hge, hok⟩
                  all_goals
                    have HOK := Lib.hid hok
                    clear hok
                    go_wp2
                    go_roundw
                    case rel => exact ⟨m + 1, by omega, by go_num, by rw [HS.out, ← Bool.and_assoc, ← HG3.out, HOK.out]; rfl, HEJ.out⟩
                    case measure => simp [intOf]; omega
              · obtain rfl : m = row.length := by omega
                go_wp2
                go_roundw
                case rel => exact ⟨i + 1, by omega, by go_num, by rw [HT.out, ← Bool.and_assoc, ← HG1.out, List.take_length, rowOk, ← HE1'.out]; simp, ext_trans HEI.out HEJ.out⟩
                case measure => simp [intOf]; omega
          · have HDUMMY := HG1
            go_wp2
            clear hb hc
            go_loopw [63, 5] (fun z y wr => ∃ m : Nat, m ≤ row.length ∧ z = .int .i64 m ∧ y = .bool (e1 && (row.take m).all geN) ∧ Ext wi wr) (fun z _ _ => row.length - (intOf z).toNat)
            case atStart => exact ⟨0, Nat.zero_le _, rfl, by simp, ext_refl _⟩
            case round =>
              rename World => wj
              obtain ⟨m, hm, rfl, rfl, hE⟩ := hrel
              have HEJ := Lib.hid hE
              clear hE
              by_cases hml : m < row.length
              · have hmi : (m : Int) < (row.length : Int) := by omega
                have hm0 : (0 : Int) ≤ (m : Int) := by omega
                obtain ⟨n, hn⟩ : ∃ n, row[m]? = some n := ⟨_, List.getElem?_eq_getElem hml⟩
                obtain ⟨b2, off2, rfl, hb2, hc2⟩ := rdI_at (rdI_ext HRI.out HEJ.out) hn
                have HS := Lib.hid (take_succ_all hn geN)
                obtain ⟨g3, hg3⟩ : ∃ g3, g3 = (e1 && (row.take m).all geN) := ⟨_, rfl⟩
                rw [← hg3]
                have HG3 := Lib.hid hg3
                have hge : (-1 ≤ n ∧ geN n = true) ∨ (¬ -1 ≤ n ∧ geN n = false) := by
                  by_cases h : -1 ≤ n
                  · exact .inl ⟨h, by simpa [geN] using h⟩
                  · exact .inr ⟨h, by simpa [geN] using h⟩
                clear hn hg3
                cases g3
                · clear hge
                  go_wp2
                  go_roundw
                  case rel => exact ⟨m + 1, by omega, by go_num, by rw [HS.out, ← Bool.and_assoc, ← HG3.out]; rfl, HEJ.out⟩
                  case measure => simp [intOf]; omega
                · rcases hge with ⟨hge, hok⟩ | ⟨hge, hok⟩
                  all_goals
                    have HOK := Lib.hid hok
                    clear hok
                    go_wp2
                    go_roundw
                    case rel => exact ⟨m + 1, by omega, by go_num, by rw [HS.out, ← Bool.and_assoc, ← HG3.out, HOK.out]; rfl, HEJ.out⟩
                    case measure => simp [intOf]; omega
              · obtain rfl : m = row.length := by omega
                go_wp2
                go_roundw
                case rel => exact ⟨i + 1, by omega, by go_num, by rw [HT.out, ← Bool.and_assoc, ← HG1.out, List.take_length, rowOk, ← HE1'.out]; simp, ext_trans HEI.out HEJ.out⟩
                case measure => simp [intOf]; omega
        · obtain rfl : i = R.length := by omega
          have HGD := Lib.hid (goodB_is L R)
          rw [List.take_length]
          obtain ⟨gd, hgd⟩ : ∃ gd, gd = goodB L R := ⟨_, rfl⟩
          have HTOT := Lib.hid (show (g0 && R.all (rowOk L.length)) = gd by rw [hgd, HGD.out, ← HG.out])
          rw [HTOT.out]
          have CG := Lib.hid (good_any _ L R wi ⟨_, _, rfl, rdS_ext HL.out HEI.out, rdW_ext HR.out HEI.out⟩ (by omega) (by omega) HRL.out)
          rw [← hgd] at CG
          clear hgd
          cases gd
          all_goals
            go_wp2_with (go_at_call 7; refine CG.out.mono ?_; rintro e w2 ⟨rfl, hE2⟩; have HE2 := Lib.hid (ext_trans HEI.out hE2); clear hE2)
            refine bodyPost_ret (results_tmp rfl _ _ _) rfl ?_
            exact ⟨rfl, HE2.out⟩
end Go.Proofs.Ytniggdaakiofeaa
