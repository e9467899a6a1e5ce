/- The document's Less. -/
import Derived.Test.YteccpinilpkmiaaEc
namespace Go.Proofs.Yteccpinilpkmiaa
open Go Go.RowKit Go.Sort
set_option maxHeartbeats 800000

/-- but the first that is y -/
def rmS : List ByteArray → ByteArray → List ByteArray
  | [], _ => []
  | x :: l, y => if x = y then l else x :: rmS l y
theorem rmS_none : ∀ (l : List ByteArray) (y : ByteArray), (∀ q : Nat, q < l.length → l[q]? ≠ some y) → rmS l y = l
  | [], _, _ => rfl
  | x :: l, y, h => by
    have h0 : x ≠ y := fun e => h 0 (by simp) (by rw [e]; rfl)
    rw [rmS, if_neg h0, rmS_none l y (fun q hq => by have := h (q + 1) (by simpa using hq); simpa using this)]
theorem rmS_at : ∀ (l : List ByteArray) (y : ByteArray) (k : Nat), (∀ q : Nat, q < k → l[q]? ≠ some y) → l[k]? = some y → rmS l y = l.take k ++ l.drop (k + 1)
  | [], y, k, _, h => by simp at h
  | x :: l, y, 0, _, h => by
    have : x = y := by simpa using h
    rw [rmS, if_pos this]; simp
  | x :: l, y, k + 1, h, hk => by
    have h0 : x ≠ y := fun e => h 0 (by omega) (by rw [e]; rfl)
    rw [rmS, if_neg h0, rmS_at l y k (fun q hq => by have := h (q + 1) (by omega); simpa using this) (by simpa using hk)]
    simp
theorem rmS_len (l : List ByteArray) (y : ByteArray) : (rmS l y).length ≤ l.length := by
  induction l with
  | nil => simp [rmS]
  | cons x l ih =>
    rw [rmS]
    split
    · simp
    · simp only [List.length_cons]; omega
theorem rm_len : ∀ (M L : List ByteArray), (M.foldl rmS L).length ≤ L.length
  | [], L => Nat.le_refl _
  | y :: M, L => Nat.le_trans (rm_len M (rmS L y)) (rmS_len L y)
theorem rm_take {M L : List ByteArray} {j : Nat} {y : ByteArray} (hy : M[j]? = some y) : (M.take (j + 1)).foldl rmS L = rmS ((M.take j).foldl rmS L) y := by
  rw [List.take_add_one, hy, List.foldl_append]; rfl
def lessR (L M : List ByteArray) : List ByteArray := sortR (M.foldl rmS L)

theorem refless_any (v1 v2 : Value) (L M : List ByteArray) (w : World) (h1 : RdS w v1 L) (h2 : RdS w v2 M) (hl : L.length ≤ 100000) (hm : M.length ≤ 100000) :
    Calls Try.prog 15 #[v1, v2] w fun e w' => ∃ lv', e = .returned lv' ∧ rowF elS w.heap.size (lessR L M) lv' w' ∧ Ext w w' := by
  obtain ⟨A0, c0, rfl, hc0, hA0⟩ := h1
  obtain ⟨A, c, rfl, _, hA⟩ := h2
  have HSRC := Lib.hid (rdS_src (w := w) ⟨A0, c0, rfl, hc0, hA0⟩)
  have HA := Lib.hid hA
  clear hA hA0 hc0
  go_enter Try.func15, Try.ntmps15
  go_wp2_with (at_builtin; refine halt_here ?_)
  refine go_on ?_
  refine wpList_append rfl (.tmp 8) (.tmp 9) rfl _ _ rfl rfl (fun v' w' => Ext (w.alloc (.cells #[] 9)) w' ∧ rowF elS w.heap.size L v' w') (append_copy tpS _ w.heap.size _ _ L _ ⟨w.heap.size, rfl, Nat.le_refl _, heap_alloc_new w _⟩ (srcOf_ext (ext_alloc (ext_refl _) _) HSRC.out) (by omega)) ?_
  rintro v5 w5 ⟨hE5, hR5⟩
  have HE5 := Lib.hid (ext_trans (ext_alloc (ext_refl w) (.cells #[] 9)) hE5)
  have HR5 := Lib.hid hR5
  clear hE5 hR5
  obtain ⟨B0, d0, hv5⟩ := rowE_form HR5.out.1
  subst hv5
  go_wp2
  go_loopw [13, 5] (fun x y wr => ∃ (j : Nat) (B : Option Addr) (d : Nat) (left : List ByteArray), j ≤ M.length ∧ x = .int .i64 j ∧ left = (M.take j).foldl rmS L ∧ y = .slice B left.length d ∧ rowE elS wr (.slice B left.length d) left ∧ Ext w wr) (fun x _ _ => M.length - (intOf x).toNat)
  case atStart => exact ⟨0, B0, d0, L, by omega, rfl, rfl, rfl, HR5.out.1, HE5.out⟩
  case round =>
    rename World => wo
    obtain ⟨j, B, d, left, hj, rfl, hleft, rfl, hrow, hE⟩ := hrel
    have HE := Lib.hid hE
    have HROW := Lib.hid hrow
    have HLF := Lib.hid hleft
    have hll : left.length ≤ L.length := by rw [hleft]; exact rm_len _ _
    clear hE hrow hleft
    by_cases hlt : j < M.length
    · have hji : (j : Int) < (M.length : Int) := by omega
      have hj0 : (0 : Int) ≤ (j : Int) := by omega
      obtain ⟨y, hy⟩ : ∃ y, M[j]? = some y := ⟨_, List.getElem?_eq_getElem hlt⟩
      obtain ⟨b, off, hAe, hb, hca⟩ := HA.out (fun e => by rw [e] at hy; simp at hy)
      subst hAe
      have Q0 := Lib.hid ((ext_cell HE.out _ _ hb).trans (hca j y hy))
      have lb := ext_lt HE.out hb
      have HY := Lib.hid hy
      clear hy hca
      go_wp2
      go_loopw [18, 5] (fun x z w3 => ∃ k : Nat, k ≤ left.length ∧ x = .int .i64 k ∧ z = .slice B left.length d ∧ (∀ q : Nat, q < k → left[q]? ≠ some y) ∧ Ext wo w3) (fun x _ _ => left.length - (intOf x).toNat)
      case atStart => exact ⟨0, by omega, rfl, rfl, fun q h => by omega, ext_refl _⟩
      case round =>
        rename World => w3
        obtain ⟨k, hk, rfl, rfl, hne, hE3⟩ := hrel
        have HE3 := Lib.hid hE3
        have HNE := Lib.hid hne
        clear hE3 hne
        have HROW3 := Lib.hid (rowE_ext HROW.out HE3.out)
        by_cases hkl : k < left.length
        · have hki : (k : Int) < (left.length : Int) := by omega
          have hk0 : (0 : Int) ≤ (k : Int) := by omega
          obtain ⟨x, hx⟩ : ∃ x, left[k]? = some x := ⟨_, List.getElem?_eq_getElem hkl⟩
          obtain ⟨g, hg, lg⟩ := rowE_some HROW3.out (fun e => by rw [e] at hx; simp at hx)
          subst hg
          have q0 := (ext_cell HE3.out _ _ lb).trans Q0.out
          have q1 := rowS_cell HROW3.out hx
          have lb3 := ext_lt HE3.out lb
          have hgc := cell_grown
          have HX := Lib.hid hx
          have hcap := (rowE_cap HROW3.out).2
          clear hx
          go_wp2
          refine wp_region_free 9 [0, 1, 2, 3, 4, 5, 6, 7, 8] [] (by kernel_rfl) (by kernel_rfl) ?_
          repeat (refine wpLoose_step rfl (fun K hK => ?_); (try simp only [Oper.quietAt, Oper.quietUpon]); go_simp; (refine hK _ ?_; clear hK K))
          refine wpLoose_nil (wpFresh_nil (fun w4 hE4 _ => ?_))
          have HE4 := Lib.hid (ext_trans HE3.out hE4)
          have HROW4 := Lib.hid (rowE_ext HROW3.out hE4)
          have lg4 := ext_lt hE4 lg
          clear hE4 q0 q1 lb3 lg
          simp only [List.drop_succ_cons, List.drop_zero]
          refine wpList_nil ?_
          by_cases he : x = y
          · have hb1 : (x.toList == y.toList) = true := by simp [he]
            rw [hb1]
            have HEQ := Lib.hid he
            clear he hb1
            have hsum : IntKind.i64.wrap ((k : Int) + 1) = (k : Int) + 1 := IntWalk.i64_in _ (by omega)
            have hsn : ((k : Int) + 1).toNat = k + 1 := by omega
            have hic : k ≤ d := by omega
            have hic' : (k : Int) ≤ (d : Int) := by omega
            have hi1 : (k : Int) + 1 ≤ (left.length : Int) := by omega
            have hi2 : (0 : Int) ≤ (k : Int) + 1 := by omega
            have hi3 : k + 1 ≤ left.length := by omega
            have hltk : (left.take k).length = k := by rw [List.length_take]; omega
            have HLTK := Lib.hid hltk
            clear hltk
            go_wp2
            refine wp_region_gen [] [1, 2, 3, 5, 6, 7, 8] [(0, noneF elS w4.heap.size), (4, rowF elS w4.heap.size (left.take k))] [9, 10] [0, 4] rfl (by kernel_rfl) (by kernel_rfl) (fun _ _ d _ _ h => by cases d <;> exact h) ?_
            refine wpPre_nil ?_
            repeat (refine wpLoose_step rfl (fun K hK => ?_); (try simp only [Oper.quietAt, Oper.quietUpon]); go_simp; (refine hK _ ?_; clear hK K))
            refine wpLoose_nil ?_
            obtain ⟨ad, had⟩ : ∃ ad, (if d = k + 1 then (some ⟨g, 0, none⟩ : Option Addr) else some ⟨g, k + 1, none⟩) = ad := ⟨_, rfl⟩
            rw [had]
            have hbef : k + 1 < left.length → ad = some ⟨g, (k + 1) * elS.size, none⟩ := fun h => by rw [← had, if_neg (by omega)]; simp [elS]
            have HBEF := Lib.hid hbef
            clear had hbef
            refine wpGen_step rfl rfl noneF_ext (fun w6 hE6 hS6 => ?_) (fun v0 => ?_)
            · simp only [runsAt]
              go_simp
              exact ⟨ext_alloc (ext_refl _) _, _, rfl, ext_size hE6, heap_alloc_new w6 _⟩
            refine wpGen_step rfl rfl rowF_ext (fun w6 hE6 hS6 => ?_) (fun v1 => ?_)
            · exact runs_append (xv := .slice (some ⟨g, 0, none⟩) k d) (.tmp 30) (.tmp 33) rfl rfl rfl (append_copy tpS _ w4.heap.size v0 _ (left.take k) w6 (hS6 _ (List.mem_cons_self ..) (by kernel_rfl)) (srcOf_take k (by omega) (rowE_ext HROW4.out hE6) d) (by rw [HLTK.out]; omega))
            refine wpGen_nil (fun w6 hE6 hS6 => ?_)
            have hr6 := hS6 _ (List.mem_cons_self ..)
            have HR6 := Lib.hid (show rowF elS w4.heap.size (left.take k) v1 w6 from hr6)
            have HE6 := Lib.hid hE6
            clear hS6 hE6 hr6
            refine wpSeq_of_list [9, 10] [_, _] _ _ rfl ?_
            refine wpList_append rfl (.tmp 34) (.tmp 38) rfl v1 (.slice ad (left.length - (k + 1)) (d - (k + 1))) rfl rfl _ (append_onto tpS _ w4.heap.size v1 _ (left.take k) (left.drop (k + 1)) w6 HR6.out (srcOf_drop (k + 1) (rowE_ext HROW4.out HE6.out) ad _ _ rfl HBEF.out) (by rw [HLTK.out, List.length_drop]; omega) (ext_size HE6.out)) ?_
            rintro v7 w7 ⟨hR7, hgr7⟩
            have hrm : left.take k ++ left.drop (k + 1) = rmS left y := (rmS_at left y k HNE.out (by rw [HX.out, HEQ.out])).symm
            rw [hrm] at hR7
            obtain ⟨A7, c7, hv7⟩ := rowE_form hR7.1
            subst hv7
            have HR7 := Lib.hid hR7
            have HE7 : Hid (Ext w w7) := Lib.hid (ext_grown (ext_trans HE.out (ext_trans HE4.out HE6.out)) hgr7 HR6.out.2 (ext_size (ext_trans HE.out HE4.out)))
            clear hR7 hgr7 hrm
            go_wp2
            go_roundw
            case rel => exact ⟨j + 1, A7, c7, rmS left y, by omega, by go_num, by rw [rm_take HY.out, ← HLF.out], rfl, HR7.out.1, HE7.out⟩
            case measure => simp [intOf]; omega
          · have hb1 : (x.toList == y.toList) = false := by
              rw [beq_eq_false_iff_ne]
              exact fun h => he (ba_ext h)
            rw [hb1]
            have HEQ := Lib.hid he
            clear he hb1
            go_wp2
            go_roundw
            case rel =>
              refine ⟨k + 1, by omega, by go_num, rfl, fun q hq => ?_, HE4.out⟩
              rcases Nat.lt_or_ge q k with h | h
              · exact HNE.out q h
              · obtain rfl : q = k := by omega
                rw [HX.out]; exact fun e => HEQ.out (Option.some.inj e)
            case measure => simp [intOf]; omega
        · obtain rfl : k = left.length := by omega
          go_wp2
          go_roundw
          case rel => exact ⟨j + 1, B, d, left, by omega, by go_num, by rw [rm_take HY.out, ← HLF.out, rmS_none left y HNE.out], rfl, HROW3.out, ext_trans HE.out HE3.out⟩
          case measure => simp [intOf]; omega
    · obtain rfl : j = M.length := by omega
      go_wp2_with (go_at_call 12; refine (refsort_any _ left _ (rdS_row HROW.out) (by omega)).mono ?_; rintro e w6 ⟨lv6, rfl, hr6, hE6⟩; have HR6 := Lib.hid hr6; have HE6 := Lib.hid (ext_trans HE.out hE6); clear hr6 hE6)
      go_ret
      exact ⟨_, rfl, by have := HLF.out; rw [List.take_length] at this; unfold lessR; rw [← this]; exact rowF_low HR6.out (ext_size HE.out), HE6.out⟩
end Go.Proofs.Yteccpinilpkmiaa
