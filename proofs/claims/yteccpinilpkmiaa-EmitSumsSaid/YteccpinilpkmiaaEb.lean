/- Rows that are read, wherever they begin; same. -/
import Derived.Test.YteccpinilpkmiaaEa
import Derived.Deep.QuietTactic
namespace Go.Proofs.Yteccpinilpkmiaa
open Go Go.RowKit Go.Sort
set_option maxHeartbeats 800000

/-- a slice of strings that reads as a list -/
def RdS (w : World) (v : Value) (L : List ByteArray) : Prop := ∃ A c, v = .slice A L.length c ∧ L.length ≤ c ∧ (L ≠ [] → ∃ b off, A = some ⟨b, off, none⟩ ∧ b < w.heap.size ∧ ∀ (i : Nat) (x : ByteArray), L[i]? = some x → w.cell? ⟨b, off + i, none⟩ = some (.string x))
theorem rdS_row {w : World} {v : Value} {L : List ByteArray} (h : rowE elS w v L) : RdS w v L := by
  obtain ⟨A, c, rfl⟩ := rowE_form h
  refine ⟨A, c, rfl, (rowE_cap h).2, fun hne => ?_⟩
  obtain ⟨g, rfl, hg⟩ := rowE_some h hne
  exact ⟨g, 0, rfl, hg, fun i x hx => by rw [Nat.zero_add]; exact rowS_cell h hx⟩
theorem rdS_ext {w w' : World} {v : Value} {L : List ByteArray} (h : RdS w v L) (hE : Ext w w') : RdS w' v L := by
  obtain ⟨A, c, h1, h2, h3⟩ := h
  refine ⟨A, c, h1, h2, fun hne => ?_⟩
  obtain ⟨b, off, h4, h5, h6⟩ := h3 hne
  exact ⟨b, off, h4, ext_lt hE h5, fun i x hx => (ext_cell hE _ _ h5).trans (h6 i x hx)⟩
theorem rdS_src {w : World} {v : Value} {L : List ByteArray} (h : RdS w v L) : SrcOf elS w v L := by
  obtain ⟨A, c, h1, _, h3⟩ := h
  refine ⟨A, c, h1, fun hne => ?_⟩
  obtain ⟨b, off, h4, h5, h6⟩ := h3 hne
  refine ⟨_, h4, fun j u hu => ?_⟩
  rw [addr_add0]
  have hx : L[j]? = some (L.getD j ⟨#[]⟩) := by
    have hj := (List.getElem?_eq_some_iff.1 hu).1
    rw [flatE_length] at hj
    have hj' : j < L.length := by simpa [elS] using hj
    simp [List.getD, hj']
  have h7 := flatE_at elS L j _ hx 0 (by decide)
  have e : j * elS.size + 0 = j := by simp [elS]
  rw [e, hu] at h7
  have h8 : u = .string (L.getD j ⟨#[]⟩) := Option.some.inj h7
  rw [h8]
  exact h6 j _ hx

theorem ba_ext {x y : ByteArray} (h : x.toList = y.toList) : x = y := by
  rw [ByteArray.toList_eq, ByteArray.toList_eq] at h
  cases x; cases y
  simp at h
  rw [h]
theorem same_any (v1 v2 : Value) (L M : List ByteArray) (w : World) (h1 : RdS w v1 L) (h2 : RdS w v2 M) (hl : L.length ≤ 1000000) (hm : M.length ≤ 1000000) :
    Calls Try.prog 13 #[v1, v2] w fun e w' => e = .returned (.bool (decide (L = M))) ∧ Ext w w' := by
  obtain ⟨A, c, rfl, _, hA⟩ := h1
  obtain ⟨B, d, rfl, _, hB⟩ := h2
  by_cases hlen : L.length = M.length
  · obtain ⟨n, hn⟩ : ∃ n, n = L.length := ⟨_, rfl⟩
    rw [← hlen, ← hn]
    have HN := Lib.hid hn
    have HLen := Lib.hid hlen
    have HA := Lib.hid hA
    have HB := Lib.hid hB
    have hn6 : n ≤ 1000000 := by omega
    clear hA hB hlen hn hl hm
    go_enter Try.func13, Try.ntmps13
    go_wp2
    go_loopw [13] (fun x wr => ∃ j : Nat, j ≤ n ∧ x = .int .i64 j ∧ L.take j = M.take j ∧ Ext w wr) (fun x _ => n - (intOf x).toNat)
    case atStart => exact ⟨0, by omega, rfl, rfl, ext_refl _⟩
    case round =>
      obtain ⟨j, hj, rfl, hpre, hE⟩ := hrel
      have HE := Lib.hid hE
      have HP := Lib.hid hpre
      clear hE hpre
      by_cases hlt : j < n
      · have hji : (j : Int) < (n : Int) := by omega
        have hj0 : (0 : Int) ≤ (j : Int) := by omega
        obtain ⟨x, hx⟩ : ∃ x, L[j]? = some x := ⟨_, List.getElem?_eq_getElem (by have := HN.out; omega)⟩
        obtain ⟨y, hy⟩ : ∃ y, M[j]? = some y := ⟨_, List.getElem?_eq_getElem (by have := HN.out; have := HLen.out; omega)⟩
        obtain ⟨b, off, hA0, hb, hca⟩ := HA.out (fun e => by rw [e] at hx; simp at hx)
        obtain ⟨b', off', hB0, hb', hcb⟩ := HB.out (fun e => by rw [e] at hy; simp at hy)
        subst hA0 hB0
        have q0 := (ext_cell HE.out _ _ hb).trans (hca j x hx)
        have q1 := (ext_cell HE.out _ _ hb').trans (hcb j y hy)
        have lb := ext_lt HE.out hb
        have lb' := ext_lt HE.out hb'
        have HX := Lib.hid hx
        have HY := Lib.hid hy
        clear hx hy hca hcb hb hb'
        have hgc := cell_grown
        go_wp2
        refine wp_region_free 9 [0, 1, 2, 3, 4, 5, 6, 7, 8] [] (by kernel_rfl) (by kernel_rfl) ?_
        repeat (refine wpLoose_step rfl (fun K hK => ?_); (try simp only [Oper.quietAt, Oper.quietUpon]); go_simp; (refine hK _ ?_; clear hK K))
        refine wpLoose_nil (wpFresh_nil (fun w3 hE3 _ => ?_))
        have HE3 := Lib.hid (ext_trans HE.out hE3)
        clear hE3 q0 q1 lb lb' hgc
        simp only [List.drop_succ_cons, List.drop_zero]
        refine wpList_nil ?_
        by_cases he : x = y
        · have hb1 : (!x.toList == y.toList) = false := by simp [he]
          rw [hb1]
          have HEQ := Lib.hid he
          clear he hb1
          go_wp2
          go_roundw
          case rel => exact ⟨j + 1, by omega, by go_num, by rw [List.take_add_one, List.take_add_one, HP.out, HX.out, HY.out, HEQ.out], HE3.out⟩
          case measure => simp [intOf]; omega
        · have hb1 : (!x.toList == y.toList) = true := by
            rw [Bool.not_eq_true', beq_eq_false_iff_ne]
            exact fun h => he (ba_ext h)
          rw [hb1]
          have HEQ := Lib.hid he
          clear he hb1
          go_wp2
          go_ret
          refine ⟨?_, HE3.out⟩
          rw [decide_eq_false (fun e => HEQ.out ?_)]
          · rfl
          · have h1 := HX.out
            rw [e, HY.out] at h1
            exact (Option.some.inj h1).symm
      · obtain rfl : j = n := by omega
        go_wp2
        go_ret
        refine ⟨?_, HE.out⟩
        rw [decide_eq_true]
        · rfl
        · have := HP.out
          rw [List.take_of_length_le (by rw [HN.out]; exact Nat.le_refl _), List.take_of_length_le (by rw [HN.out, HLen.out]; exact Nat.le_refl _)] at this
          exact this
  · have hlb : ((L.length : Int) != (M.length : Int)) = true := by simp; omega
    have hd : decide (L = M) = false := decide_eq_false (fun e => hlen (by rw [e]))
    have hd2 : ¬ L.length = M.length := hlen
    rw [hd]
    clear hd hlen hA hB hl hm
    go_enter Try.func13, Try.ntmps13
    go_wp2
    go_ret
    exact ⟨rfl, ext_refl _⟩
end Go.Proofs.Yteccpinilpkmiaa
