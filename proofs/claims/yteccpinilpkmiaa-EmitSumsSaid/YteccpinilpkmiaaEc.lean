/- The document's Sort. -/
import Derived.Test.YteccpinilpkmiaaEb
namespace Go.Proofs.Yteccpinilpkmiaa
open Go Go.RowKit Go.Sort
set_option maxHeartbeats 800000

def ltS (x y : ByteArray) : Bool := Op.bytesLess x.toList y.toList
/-- where one goes, from the end -/
def posF (x : ByteArray) (out : List ByteArray) : Nat → Nat
  | 0 => 0
  | n + 1 => if ltS x (out.getD n ⟨#[]⟩) then posF x out n else n + 1
theorem posF_le (x : ByteArray) (out : List ByteArray) : ∀ n, posF x out n ≤ n
  | 0 => Nat.le_refl _
  | n + 1 => by
    unfold posF
    split
    · exact Nat.le_succ_of_le (posF_le x out n)
    · exact Nat.le_refl _
theorem posF_step {x y : ByteArray} {out : List ByteArray} {m : Nat} (h : 0 < m) (hy : out[m - 1]? = some y) : posF x out m = if ltS x y then posF x out (m - 1) else m := by
  obtain ⟨n, rfl⟩ : ∃ n, m = n + 1 := ⟨m - 1, by omega⟩
  have e : out.getD n ⟨#[]⟩ = y := by
    rw [List.getD_eq_getElem?_getD]
    simp only [Nat.add_sub_cancel] at hy
    rw [hy]; rfl
  rw [posF, e]
  rfl
def insR (out : List ByteArray) (x : ByteArray) : List ByteArray := out.take (posF x out out.length) ++ x :: out.drop (posF x out out.length)
def sortR (L : List ByteArray) : List ByteArray := L.foldl insR []
theorem insR_length (out : List ByteArray) (x : ByteArray) : (insR out x).length = out.length + 1 := by
  have := posF_le x out out.length
  simp [insR]; omega
theorem sort_len : ∀ (L out : List ByteArray), (L.foldl insR out).length = out.length + L.length
  | [], out => by simp
  | x :: L, out => by rw [List.foldl_cons, sort_len L, insR_length, List.length_cons]; omega
theorem sort_take {L : List ByteArray} {j : Nat} {x : ByteArray} (hx : L[j]? = some x) : (L.take (j + 1)).foldl insR [] = insR ((L.take j).foldl insR []) x := by
  rw [List.take_add_one, hx, List.foldl_append]; rfl

theorem refsort_any (v : Value) (L : List ByteArray) (w : World) (h : RdS w v L) (hm : L.length ≤ 100000) :
    Calls Try.prog 12 #[v] w fun e w' => ∃ lv', e = .returned lv' ∧ rowF elS w.heap.size (sortR L) lv' w' ∧ Ext w w' := by
  obtain ⟨A, c, rfl, _, hA⟩ := h
  have HA := Lib.hid hA
  clear hA
  go_enter Try.func12, Try.ntmps12
  go_wp2
  go_loopw [9, 3] (fun x y wr => ∃ (j : Nat) (B : Option Addr) (d : Nat) (out : List ByteArray), j ≤ L.length ∧ x = .int .i64 j ∧ out = (L.take j).foldl insR [] ∧ y = .slice B out.length d ∧ rowF elS w.heap.size out (.slice B out.length d) wr ∧ Ext w wr) (fun x _ _ => L.length - (intOf x).toNat)
  case atStart => exact ⟨0, none, 0, [], by omega, rfl, rfl, rfl, rowF_nil _ _, ext_refl _⟩
  case round =>
    rename World => wo
    obtain ⟨j, B, d, out, hj, rfl, hout, rfl, hrow, hE⟩ := hrel
    have HE := Lib.hid hE
    have HROWF := Lib.hid hrow
    have HROW := Lib.hid hrow.1
    have HOUT := Lib.hid hout
    have hol : out.length ≤ j := by
      rw [hout, sort_len]; simp; omega
    clear hE hrow hout
    by_cases hlt : j < L.length
    · have hji : (j : Int) < (L.length : Int) := by omega
      have hj0 : (0 : Int) ≤ (j : Int) := by omega
      obtain ⟨x, hx⟩ : ∃ x, L[j]? = some x := ⟨_, List.getElem?_eq_getElem hlt⟩
      obtain ⟨b, off, hA0, hb, hca⟩ := HA.out (fun e => by rw [e] at hx; simp at hx)
      subst hA0
      have q0 := (ext_cell HE.out _ _ hb).trans (hca j x hx)
      have lb := ext_lt HE.out hb
      have Q0 := Lib.hid q0
      have HX := Lib.hid hx
      clear hx hca
      go_wp2
      clear q0
      rcases rowE_cases HROW.out with ⟨h1, h2⟩ | ⟨g, cap2, cur2, h1, hg0, _⟩
      · have hA : B = none ∧ out.length = 0 ∧ d = 0 := by simpa only [Value.slice.injEq] using h1
        rw [hA.1, hA.2.1, hA.2.2]
        have HO := Lib.hid h2
        clear h1 h2 hA
        go_loopw [5] (fun x5 w3 => x5 = .int .i64 0 ∧ Ext wo w3) (fun _ _ => 0)
        case atStart => exact ⟨rfl, ext_refl _⟩
        case round =>
          rename World => w3
          obtain ⟨rfl, hE3⟩ := hrel
          have HE3 := Lib.hid hE3
          clear hE3
          have hgc := cell_grown
          go_wp2
          refine wp_region_free 14 [0, 1, 2, 3, 4, 5, 6, 7, 8, 9, 10, 11, 12, 13] [] (by kernel_rfl) (by kernel_rfl) ?_
          repeat (refine wpLoose_step rfl (fun K hK => ?_); (try simp only [Oper.quietAt, Oper.quietUpon]); go_simp; (refine hK _ ?_; clear hK K))
          refine wpLoose_nil (wpFresh_nil (fun w4 hE4 _ => ?_))
          have HE4 := Lib.hid (ext_trans HE3.out hE4)
          clear hE4 hgc
          simp only [List.drop_succ_cons, List.drop_zero]
          refine wpList_nil ?_
          have HE24 := Lib.hid (ext_trans HE.out HE4.out)
          have hgc := cell_grown
          go_wp2_with (at_builtin; refine halt_here ?_)
          all_goals
            refine go_on ?_
            refine wpList_append rfl (.tmp 30) (.tmp 33) rfl _ _ rfl rfl (fun v' w' => Ext (w4.alloc (.cells #[] 9)) w' ∧ rowF elS w4.heap.size ([] : List ByteArray) v' w') (append_copy tpS _ w4.heap.size _ _ ([] : List ByteArray) _ ⟨w4.heap.size, rfl, Nat.le_refl _, heap_alloc_new w4 _⟩ (srcOf_nil _ _ _) (by simp)) ?_
            rintro v5 w5 ⟨hE5, hR5⟩
            have HE5 := Lib.hid (ext_trans (ext_alloc (ext_refl w4) (.cells #[] 9)) hE5)
            have HR5 := Lib.hid hR5
            clear hE5 hR5
            go_wp2
            have l45 := ext_size HE5.out
            have lb5 : b < w5.heap.size := ext_lt (ext_trans HE4.out HE5.out) lb
            have q0 : w5.cell? ⟨b, off + j, none⟩ = some (.string x) := (ext_cell (ext_trans HE4.out HE5.out) _ _ lb).trans Q0.out
            refine wp_region_gen [] [0, 1, 2, 3, 4, 5, 6, 7, 10] [(8, oneF elS w5.heap.size x), (9, rowF elS w5.heap.size ([] ++ [x]))] [11, 12] [8, 9] rfl (by kernel_rfl) (by kernel_rfl) (fun _ _ d _ _ h => by cases d <;> exact h) ?_
            refine wpPre_nil ?_
            repeat (refine wpLoose_step rfl (fun K hK => ?_); (try simp only [Oper.quietAt, Oper.quietUpon]); go_simp; (refine hK _ ?_; clear hK K))
            refine wpLoose_nil ?_
            refine wpGen_step rfl rfl oneF_ext (fun w6 hE6 hS6 => ?_) (fun v1 => ?_)
            · simp only [runsAt]
              go_simp
              exact ⟨ext_alloc (ext_refl _) _, _, rfl, ext_size hE6, heap_alloc_new w6 _⟩
            refine wpGen_step rfl rfl rowF_ext (fun w6 hE6 hS6 => ?_) (fun v2 => ?_)
            · exact runs_append (sv := .slice none 0 0) (.tmp 38) (.tmp 43) rfl rfl rfl (append_full tpS _ none [] [x] w6 w5.heap.size _ _ rfl (srcOf_nil _ _ _) (srcOf_one (hS6 _ (List.mem_cons_self ..) (by kernel_rfl))) (by simp) (by simp) (ext_size hE6))
            refine wpGen_nil (fun w6 hE6 hS6 => ?_)
            have hr6 := hS6 _ (List.mem_cons_self ..)
            have HR6 := Lib.hid (show rowF elS w5.heap.size (([] : List ByteArray) ++ [x]) v2 w6 from hr6)
            have HE6 := Lib.hid hE6
            clear hS6 hE6 hr6 q0
            refine wpSeq_of_list [11, 12] [_, _] _ _ rfl ?_
            refine wpList_append rfl (.tmp 44) (.tmp 45) rfl v2 v5 rfl rfl _ (append_onto tpS _ w5.heap.size v2 v5 (([] : List ByteArray) ++ [x]) ([] : List ByteArray) w6 HR6.out (srcOf_row (rowE_ext HR5.out.1 HE6.out)) (by simp) (ext_size HE6.out)) ?_
            rintro v7 w7 ⟨hR7, hgr7⟩
            have hins : ([] : List ByteArray) ++ [x] ++ ([] : List ByteArray) = insR out x := by rw [HO.out]; rfl
            rw [hins] at hR7
            obtain ⟨A7, c7, hv7⟩ := rowE_form hR7.1
            subst hv7
            have HR7 := Lib.hid hR7
            have HE7 : Hid (Ext w w7) := Lib.hid (ext_grown (ext_trans HE24.out (ext_trans HE5.out HE6.out)) hgr7 HR6.out.2 (Nat.le_trans (ext_size HE24.out) l45))
            clear hR7 hgr7 hins
            go_wp2
            go_roundw
            case rel => exact ⟨j + 1, A7, c7, insR out x, by omega, by go_num, by rw [sort_take HX.out, ← HOUT.out], rfl, rowF_low HR7.out (Nat.le_trans (ext_size HE24.out) l45), HE7.out⟩
            case measure => simp [intOf]; omega
      · have hBg : B = some ⟨g, 0, none⟩ := by simp only [Value.slice.injEq] at h1; exact h1.1
        have hROW3 := HROW.out
        rw [hBg] at hROW3
        have HROW3 := Lib.hid hROW3
        have lg0 := block_lt hg0
        rw [hBg]
        have HB := Lib.hid hBg
        clear hBg h1 hg0 hROW3
        go_loopw [5] (fun x5 w3 => ∃ m : Nat, m ≤ out.length ∧ x5 = .int .i64 m ∧ posF x out m = posF x out out.length ∧ Ext wo w3) (fun x5 _ => (intOf x5).toNat)
        case atStart => exact ⟨out.length, Nat.le_refl _, rfl, rfl, ext_refl _⟩
        case round =>
          rename World => w3
          obtain ⟨m, hml, rfl, hpos, hE3⟩ := hrel
          have HE3 := Lib.hid hE3
          have HPOS := Lib.hid hpos
          clear hE3 hpos
          have hgc := cell_grown
          have lb3 := ext_lt HE3.out lb
          have q0 := (ext_cell HE3.out _ _ lb).trans Q0.out
          by_cases hm0 : 0 < m
          · have hmi : (0 : Int) < (m : Int) := by omega
            have hmo : ((m : Int) - 1) < (out.length : Int) := by omega
            have hm1 : (1 : Int) ≤ (m : Int) := by omega
            have hmw : IntKind.i64.wrap ((m : Int) - 1) = (m : Int) - 1 := IntWalk.i64_in _ (by omega)
            have hmn : ((m : Int) - 1).toNat = m - 1 := by omega
            obtain ⟨y, hy⟩ : ∃ y, out[m - 1]? = some y := ⟨_, List.getElem?_eq_getElem (by omega)⟩
            have lg := ext_lt HE3.out lg0
            have q1 := rowS_cell (rowE_ext HROW3.out HE3.out) hy
            have HY := Lib.hid hy
            clear hy
            go_wp2
            refine wp_region_free 14 [0, 1, 2, 3, 4, 5, 6, 7, 8, 9, 10, 11, 12, 13] [] (by kernel_rfl) (by kernel_rfl) ?_
            repeat (refine wpLoose_step rfl (fun K hK => ?_); (try simp only [Oper.quietAt, Oper.quietUpon]); go_simp; (refine hK _ ?_; clear hK K))
            refine wpLoose_nil (wpFresh_nil (fun w4 hE4 _ => ?_))
            have HE4 := Lib.hid (ext_trans HE3.out hE4)
            clear hE4 q0 q1 hgc lg lb3 hmw hmn hmo hmi
            simp only [List.drop_succ_cons, List.drop_zero]
            refine wpList_nil ?_
            have hLS : Op.bytesLess x.toList y.toList = true ∨ Op.bytesLess x.toList y.toList = false := by cases Op.bytesLess x.toList y.toList <;> simp
            have HPM1 := Lib.hid (posF_step (x := x) hm0 HY.out)
            rcases hLS with hls | hls
            · rw [hls]
              have HLS := Lib.hid hls
              clear hls
              go_wp2
              go_roundw
              case rel => exact ⟨m - 1, by omega, by rw [show ((m - 1 : Nat) : Int) = (m : Int) - 1 by omega], by rw [← HPOS.out, HPM1.out, show ltS x y = true from HLS.out]; rfl, HE4.out⟩
              case measure => simp [intOf]; omega
            · rw [hls]
              have HPM : Hid (posF x out out.length = m) := Lib.hid (by rw [← HPOS.out, HPM1.out, show ltS x y = false from hls]; rfl)
              clear hls HY
              have HROW4 := Lib.hid (rowE_ext HROW3.out HE4.out)
              have lg4 : g < w4.heap.size := ext_lt HE4.out lg0
              have hcap : out.length ≤ d := (rowE_cap HROW4.out).2
              have hmd : m ≤ d := by omega
              have hmd' : (m : Int) ≤ (d : Int) := by omega
              have hml' : (m : Int) ≤ (out.length : Int) := by omega
              have HE24 := Lib.hid (ext_trans HE.out HE4.out)
              have hgc := cell_grown
              go_wp2_with (at_builtin; refine halt_here ?_)
              all_goals
                refine go_on ?_
                refine wpList_append rfl (.tmp 30) (.tmp 33) rfl _ _ rfl rfl (fun v' w' => Ext (w4.alloc (.cells #[] 9)) w' ∧ rowF elS w4.heap.size (out.drop m) v' w') (append_copy tpS _ w4.heap.size _ _ (out.drop m) _ ⟨w4.heap.size, rfl, Nat.le_refl _, heap_alloc_new w4 _⟩ (srcOf_ext (ext_alloc (ext_refl _) _) (srcOf_drop m HROW4.out _ _ _ (by simp) (fun h => by first | (simp [elS]; done) | omega))) (by simp; omega)) ?_
                rintro v5 w5 ⟨hE5, hR5⟩
                have HE5 := Lib.hid (ext_trans (ext_alloc (ext_refl w4) (.cells #[] 9)) hE5)
                have HR5 := Lib.hid hR5
                clear hE5 hR5
                go_wp2
                have l45 := ext_size HE5.out
                have lb5 : b < w5.heap.size := ext_lt (ext_trans HE4.out HE5.out) lb
                have q0 : w5.cell? ⟨b, off + j, none⟩ = some (.string x) := (ext_cell (ext_trans HE4.out HE5.out) _ _ lb).trans Q0.out
                have hltk : (out.take m).length = m := by rw [List.length_take]; omega
                have HLTK := Lib.hid hltk
                have lg5 : g < w5.heap.size := by have := lg4; omega
                clear hltk
                refine wp_region_gen [] [0, 1, 2, 3, 4, 5, 6, 7, 10] [(8, oneF elS w5.heap.size x), (9, rowF elS w5.heap.size (out.take m ++ [x]))] [11, 12] [8, 9] rfl (by kernel_rfl) (by kernel_rfl) (fun _ _ d _ _ h => by cases d <;> exact h) ?_
                refine wpPre_nil ?_
                repeat (refine wpLoose_step rfl (fun K hK => ?_); (try simp only [Oper.quietAt, Oper.quietUpon]); go_simp; (refine hK _ ?_; clear hK K))
                refine wpLoose_nil ?_
                refine wpGen_step rfl rfl oneF_ext (fun w6 hE6 hS6 => ?_) (fun v1 => ?_)
                · simp only [runsAt]
                  go_simp
                  exact ⟨ext_alloc (ext_refl _) _, _, rfl, ext_size hE6, heap_alloc_new w6 _⟩
                refine wpGen_step rfl rfl rowF_ext (fun w6 hE6 hS6 => ?_) (fun v2 => ?_)
                · exact runs_append (sv := .slice (some ⟨g, 0, none⟩) m m) (.tmp 38) (.tmp 43) rfl rfl rfl (append_full tpS _ (some ⟨g, 0, none⟩) (out.take m) [x] w6 w5.heap.size (.slice (some ⟨g, 0, none⟩) m m) _ (by rw [HLTK.out]) (srcOf_take m (by omega) (rowE_ext HROW4.out (ext_trans HE5.out hE6)) m) (srcOf_one (hS6 _ (List.mem_cons_self ..) (by kernel_rfl))) (by simp) (by rw [HLTK.out]; simp; omega) (ext_size hE6))
                refine wpGen_nil (fun w6 hE6 hS6 => ?_)
                have hr6 := hS6 _ (List.mem_cons_self ..)
                have HR6 := Lib.hid (show rowF elS w5.heap.size (out.take m ++ [x]) v2 w6 from hr6)
                have HE6 := Lib.hid hE6
                clear hS6 hE6 hr6 q0
                refine wpSeq_of_list [11, 12] [_, _] _ _ rfl ?_
                refine wpList_append rfl (.tmp 44) (.tmp 45) rfl v2 v5 rfl rfl _ (append_onto tpS _ w5.heap.size v2 v5 (out.take m ++ [x]) (out.drop m) w6 HR6.out (srcOf_row (rowE_ext HR5.out.1 HE6.out)) (by simp; omega) (ext_size HE6.out)) ?_
                rintro v7 w7 ⟨hR7, hgr7⟩
                have hins : out.take m ++ [x] ++ (out.drop m) = insR out x := by unfold insR; rw [HPM.out]; simp
                rw [hins] at hR7
                obtain ⟨A7, c7, hv7⟩ := rowE_form hR7.1
                subst hv7
                have HR7 := Lib.hid hR7
                have HE7 : Hid (Ext w w7) := Lib.hid (ext_grown (ext_trans HE24.out (ext_trans HE5.out HE6.out)) hgr7 HR6.out.2 (Nat.le_trans (ext_size HE24.out) l45))
                clear hR7 hgr7 hins
                go_wp2
                go_roundw
                case rel => exact ⟨j + 1, A7, c7, insR out x, by omega, by go_num, by rw [sort_take HX.out, ← HOUT.out], rfl, rowF_low HR7.out (Nat.le_trans (ext_size HE24.out) l45), HE7.out⟩
                case measure => simp [intOf]; omega
          · obtain rfl : m = 0 := by omega
            have HPM : Hid (posF x out out.length = 0) := Lib.hid (by rw [← HPOS.out]; rfl)
            go_wp2
            refine wp_region_free 14 [0, 1, 2, 3, 4, 5, 6, 7, 8, 9, 10, 11, 12, 13] [] (by kernel_rfl) (by kernel_rfl) ?_
            repeat (refine wpLoose_step rfl (fun K hK => ?_); (try simp only [Oper.quietAt, Oper.quietUpon]); go_simp; (refine hK _ ?_; clear hK K))
            refine wpLoose_nil (wpFresh_nil (fun w4 hE4 _ => ?_))
            have HE4 := Lib.hid (ext_trans HE3.out hE4)
            clear hE4 q0 hgc lb3
            simp only [List.drop_succ_cons, List.drop_zero]
            refine wpList_nil ?_
            have HROW4 := Lib.hid (rowE_ext HROW3.out HE4.out)
            have lg4 : g < w4.heap.size := ext_lt HE4.out lg0
            have hcap : out.length ≤ d := (rowE_cap HROW4.out).2
            have hmd : 0 ≤ d := by omega
            have hmd' : ((0 : Nat) : Int) ≤ (d : Int) := by omega
            have hml' : ((0 : Nat) : Int) ≤ (out.length : Int) := by omega
            have HE24 := Lib.hid (ext_trans HE.out HE4.out)
            have hgc := cell_grown
            go_wp2_with (at_builtin; refine halt_here ?_)
            all_goals
              refine go_on ?_
              refine wpList_append rfl (.tmp 30) (.tmp 33) rfl _ _ rfl rfl (fun v' w' => Ext (w4.alloc (.cells #[] 9)) w' ∧ rowF elS w4.heap.size (out.drop 0) v' w') (append_copy tpS _ w4.heap.size _ _ (out.drop 0) _ ⟨w4.heap.size, rfl, Nat.le_refl _, heap_alloc_new w4 _⟩ (srcOf_ext (ext_alloc (ext_refl _) _) (srcOf_drop 0 HROW4.out _ _ _ (by simp) (fun h => by first | (simp [elS]; done) | omega))) (by simp; omega)) ?_
              rintro v5 w5 ⟨hE5, hR5⟩
              have HE5 := Lib.hid (ext_trans (ext_alloc (ext_refl w4) (.cells #[] 9)) hE5)
              have HR5 := Lib.hid hR5
              clear hE5 hR5
              go_wp2
              have l45 := ext_size HE5.out
              have lb5 : b < w5.heap.size := ext_lt (ext_trans HE4.out HE5.out) lb
              have q0 : w5.cell? ⟨b, off + j, none⟩ = some (.string x) := (ext_cell (ext_trans HE4.out HE5.out) _ _ lb).trans Q0.out
              have hltk : (out.take 0).length = 0 := by rw [List.length_take]; omega
              have HLTK := Lib.hid hltk
              have lg5 : g < w5.heap.size := by have := lg4; omega
              clear hltk
              refine wp_region_gen [] [0, 1, 2, 3, 4, 5, 6, 7, 10] [(8, oneF elS w5.heap.size x), (9, rowF elS w5.heap.size (out.take 0 ++ [x]))] [11, 12] [8, 9] rfl (by kernel_rfl) (by kernel_rfl) (fun _ _ d _ _ h => by cases d <;> exact h) ?_
              refine wpPre_nil ?_
              repeat (refine wpLoose_step rfl (fun K hK => ?_); (try simp only [Oper.quietAt, Oper.quietUpon]); go_simp; (refine hK _ ?_; clear hK K))
              refine wpLoose_nil ?_
              refine wpGen_step rfl rfl oneF_ext (fun w6 hE6 hS6 => ?_) (fun v1 => ?_)
              · simp only [runsAt]
                go_simp
                exact ⟨ext_alloc (ext_refl _) _, _, rfl, ext_size hE6, heap_alloc_new w6 _⟩
              refine wpGen_step rfl rfl rowF_ext (fun w6 hE6 hS6 => ?_) (fun v2 => ?_)
              · exact runs_append (sv := .slice (some ⟨g, 0, none⟩) 0 0) (.tmp 38) (.tmp 43) rfl rfl rfl (append_full tpS _ (some ⟨g, 0, none⟩) (out.take 0) [x] w6 w5.heap.size (.slice (some ⟨g, 0, none⟩) 0 0) _ (by rw [HLTK.out]) (srcOf_take 0 (by omega) (rowE_ext HROW4.out (ext_trans HE5.out hE6)) 0) (srcOf_one (hS6 _ (List.mem_cons_self ..) (by kernel_rfl))) (by simp) (by simp) (ext_size hE6))
              refine wpGen_nil (fun w6 hE6 hS6 => ?_)
              have hr6 := hS6 _ (List.mem_cons_self ..)
              have HR6 := Lib.hid (show rowF elS w5.heap.size (out.take 0 ++ [x]) v2 w6 from hr6)
              have HE6 := Lib.hid hE6
              clear hS6 hE6 hr6 q0
              refine wpSeq_of_list [11, 12] [_, _] _ _ rfl ?_
              refine wpList_append rfl (.tmp 44) (.tmp 45) rfl v2 v5 rfl rfl _ (append_onto tpS _ w5.heap.size v2 v5 (out.take 0 ++ [x]) (out.drop 0) w6 HR6.out (srcOf_row (rowE_ext HR5.out.1 HE6.out)) (by simp; omega) (ext_size HE6.out)) ?_
              rintro v7 w7 ⟨hR7, hgr7⟩
              have hins : out.take 0 ++ [x] ++ (out.drop 0) = insR out x := by unfold insR; rw [HPM.out]; simp
              rw [hins] at hR7
              obtain ⟨A7, c7, hv7⟩ := rowE_form hR7.1
              subst hv7
              have HR7 := Lib.hid hR7
              have HE7 : Hid (Ext w w7) := Lib.hid (ext_grown (ext_trans HE24.out (ext_trans HE5.out HE6.out)) hgr7 HR6.out.2 (Nat.le_trans (ext_size HE24.out) l45))
              clear hR7 hgr7 hins
              go_wp2
              go_roundw
              case rel => exact ⟨j + 1, A7, c7, insR out x, by omega, by go_num, by rw [sort_take HX.out, ← HOUT.out], rfl, rowF_low HR7.out (Nat.le_trans (ext_size HE24.out) l45), HE7.out⟩
              case measure => simp [intOf]; omega
    · obtain rfl : j = L.length := by omega
      go_wp2
      go_ret
      exact ⟨_, rfl, by have := HOUT.out; rw [List.take_length] at this; unfold sortR; rw [← this]; exact HROWF.out, HE.out⟩
end Go.Proofs.Yteccpinilpkmiaa
