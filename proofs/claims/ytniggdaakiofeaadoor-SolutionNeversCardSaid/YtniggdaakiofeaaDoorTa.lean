/- The document's rows: Get, Has, Add, Put, Both. -/
import Derived.Test.YtniggdaakiofeaaDoorSe
namespace Go.Proofs.YtniggdaakiofeaaDoor
open Go Go.RowKit Go.Sort
set_option maxHeartbeats 4000000

def elP : El VarN := ⟨fun p => [.string p.1, .int .i64 p.2], 2, 81, by decide, fun _ => rfl, fun x u hu => by
  rcases List.mem_cons.1 hu with rfl | hu
  · rfl
  · rw [List.mem_singleton.1 hu]; rfl⟩
noncomputable def tpP : Tp Tryd.prog 52 elP := ⟨(Tryd.prog.info? 81).get (by kernel_rfl), .agg #[.string ⟨#[]⟩, .int .i64 0], 24, Tryd.underlying52, by kernel_rfl, by kernel_rfl, by kernel_rfl, by kernel_rfl, rfl, by decide⟩
theorem rowP_cell {w : World} {g n c : Nat} {r : List VarN} (h : rowE elP w (.slice (some ⟨g, 0, none⟩) n c) r) {i : Nat} {q : VarN} (hq : r[i]? = some q) : w.cell? ⟨g, i * 2, none⟩ = some (.string q.1) ∧ w.cell? ⟨g, i * 2 + 1, none⟩ = some (.int .i64 q.2) :=
  ⟨rowE_cell h hq (j := 0) (u := .string q.1) rfl, rowE_cell h hq (j := 1) (u := .int .i64 q.2) rfl⟩
theorem str_eq {x y : ByteArray} (h : x = y) : (x.toList == y.toList) = true := by rw [h]; simp
theorem str_ne {x y : ByteArray} (h : x ≠ y) : (x.toList == y.toList) = false := by
  rw [beq_eq_false_iff_ne]; exact fun e => h (ba_ext e)

theorem posS_lt {l : List ByteArray} {s : ByteArray} {j : Nat} (h : j < posS l s) : ∃ y, l[j]? = some y ∧ Op.bytesLess y.toList s.toList = true := by
  obtain ⟨c1, _⟩ := posS_cut l s
  have h1 : j < (l.takeWhile (ltS · s)).length := h
  have h2 : (l.takeWhile (ltS · s))[j]? = some (l.takeWhile (ltS · s))[j] := List.getElem?_eq_getElem h1
  refine ⟨_, ?_, List.all_eq_true.1 (List.all_takeWhile (p := (ltS · s)) (l := l)) _ (List.mem_of_getElem? h2)⟩
  rw [← h2, ← c1, List.getElem?_take, if_pos h]
theorem posS_ge {l : List ByteArray} {s y : ByteArray} (h : l[posS l s]? = some y) : Op.bytesLess y.toList s.toList = false := by
  obtain ⟨_, c2⟩ := posS_cut l s
  have h1 : (l.dropWhile (ltS · s))[0]? = some y := by rw [← c2, List.getElem?_drop]; exact h
  cases hd : l.dropWhile (ltS · s) with
  | nil => rw [hd] at h1; simp at h1
  | cons z r =>
    rw [hd] at h1
    simp at h1
    subst h1
    have := List.head_dropWhile_not (p := (ltS · s)) (l := l) (by rw [hd]; simp)
    simp only [hd, List.head_cons] at this
    exact this
theorem posS_le (l : List ByteArray) (s : ByteArray) : posS l s ≤ l.length := by
  have := congrArg List.length (List.takeWhile_append_dropWhile (p := (ltS · s)) (l := l))
  rw [List.length_append] at this
  unfold posS; omega
theorem add_in {l : List ByteArray} {s : ByteArray} (h : l[posS l s]? = some s) : addS l s = l := by
  unfold addS
  rw [if_pos (idxS_lt.2 (List.mem_of_getElem? h))]
theorem add_out {l : List ByteArray} {s : ByteArray} (hr : RiseS l) (h : ∀ y, l[posS l s]? = some y → y ≠ s) : addS l s = l.take (posS l s) ++ s :: l.drop (posS l s) := by
  obtain ⟨c1, c2⟩ := posS_cut l s
  unfold addS
  rw [if_neg (fun hh => h s (posS_in hr (idxS_lt.1 hh)) rfl), c1, c2]
theorem putAt_is (r : List VarN) (v : ByteArray) : putAt r v = posS (keysR r) v := by
  induction r with
  | nil => rfl
  | cons p r ih =>
    rw [putAt, keysR, List.map_cons, posS, List.takeWhile_cons]
    split
    · rw [ih]; rfl
    · rfl
theorem putAt_lt {r : List VarN} {v : ByteArray} {j : Nat} (h : j < putAt r v) : ∃ q, r[j]? = some q ∧ Op.bytesLess q.1.toList v.toList = true := by
  rw [putAt_is] at h
  obtain ⟨y, h1, h2⟩ := posS_lt h
  rw [keysR, List.getElem?_map] at h1
  obtain ⟨q, h3, rfl⟩ := Option.map_eq_some_iff.1 h1
  exact ⟨q, h3, h2⟩
theorem putAt_ge {r : List VarN} {v : ByteArray} {q : VarN} (h : r[putAt r v]? = some q) : Op.bytesLess q.1.toList v.toList = false := by
  rw [putAt_is] at h
  exact posS_ge (l := keysR r) (y := q.1) (by rw [show (keysR r)[posS (keysR r) v]? = (r[posS (keysR r) v]?).map (·.1) from List.getElem?_map .., h]; rfl)
theorem getR_drop {r : List VarN} {j : Nat} {q : VarN} (hq : r[j]? = some q) (x : ByteArray) : getR (r.drop j) x = if q.1 = x then q.2 else getR (r.drop (j + 1)) x := by
  obtain ⟨hj, he⟩ := List.getElem?_eq_some_iff.1 hq
  rw [List.drop_eq_getElem_cons hj, getR, he]

theorem get_any (v : Value) (r : List VarN) (x : ByteArray) (w : World) (h : rowE elP w v r) (hl : r.length ≤ 1000000) :
    Calls Tryd.prog 48 #[v, .string x] w fun e w' => e = .returned (.int .i64 (getR r x)) ∧ w' = w := by
  obtain ⟨A, c, rfl⟩ := rowE_form h
  have HR := Lib.hid h
  clear h
  go_enter Tryd.func48, Tryd.ntmps48
  go_wp2
  go_loopw [8] (fun z wr => ∃ j : Nat, j ≤ r.length ∧ z = .int .i64 j ∧ wr = w ∧ getR (r.drop j) x = getR r x) (fun z _ => r.length - (intOf z).toNat)
  case atStart => exact ⟨0, Nat.zero_le _, rfl, rfl, rfl⟩
  case round =>
    obtain ⟨j, hj, rfl, hw, hpre⟩ := hrel
    subst hw
    rename World => w
    have HP := Lib.hid hpre
    clear hpre
    by_cases hlt : j < r.length
    · have hji : (j : Int) < (r.length : Int) := by omega
      have hj0 : (0 : Int) ≤ (j : Int) := by omega
      obtain ⟨q, hq⟩ : ∃ q, r[j]? = some q := ⟨_, List.getElem?_eq_getElem hlt⟩
      obtain ⟨g, rfl, hg⟩ := rowE_some HR.out (fun e => by rw [e] at hq; simp at hq)
      obtain ⟨q0, q1⟩ := rowP_cell HR.out hq
      have HQ := Lib.hid hq
      clear hq
      obtain ⟨k, n⟩ := q
      by_cases he : k = x
      · have hb := str_eq he
        have HEQ := Lib.hid he
        clear he
        go_wp2
        refine bodyPost_ret (results_tmp rfl _ _ _) rfl ?_
        exact ⟨by rw [← HP.out, getR_drop HQ.out, if_pos HEQ.out]; rfl, rfl⟩
      · have hb := str_ne he
        have HEQ := Lib.hid he
        clear he
        go_wp2
        go_roundw
        case rel => exact ⟨j + 1, by omega, by go_num, trivial, by rw [← HP.out, getR_drop HQ.out, if_neg HEQ.out]⟩
        case measure => simp [intOf]; omega
    · obtain rfl : j = r.length := by omega
      go_wp2
      refine bodyPost_ret (results_tmp rfl _ _ _) rfl ?_
      exact ⟨by rw [← HP.out, List.drop_length]; rfl, rfl⟩

theorem has_any (v : Value) (L : List ByteArray) (x : ByteArray) (w : World) (h : RdS w v L) (hl : L.length ≤ 1000000) :
    Calls Tryd.prog 40 #[v, .string x] w fun e w' => e = .returned (.bool (decide (idxS L x < L.length))) ∧ w' = w := by
  obtain ⟨A, c, rfl⟩ := rdS_form h
  have HR := Lib.hid h
  clear h
  go_enter Tryd.func40, Tryd.ntmps40
  go_wp2
  go_loopw [8] (fun z wr => ∃ j : Nat, j ≤ L.length ∧ z = .int .i64 j ∧ wr = w ∧ ∀ (i : Nat) y, i < j → L[i]? = some y → y ≠ x) (fun z _ => L.length - (intOf z).toNat)
  case atStart => exact ⟨0, Nat.zero_le _, rfl, rfl, fun i y h => absurd h (Nat.not_lt_zero _)⟩
  case round =>
    obtain ⟨j, hj, rfl, hw, hpre⟩ := hrel
    subst hw
    rename World => w
    have HP := Lib.hid hpre
    clear hpre
    by_cases hlt : j < L.length
    · have hji : (j : Int) < (L.length : Int) := by omega
      have hj0 : (0 : Int) ≤ (j : Int) := by omega
      obtain ⟨q, hq⟩ : ∃ q, L[j]? = some q := ⟨_, List.getElem?_eq_getElem hlt⟩
      obtain ⟨b, off, rfl, hb, q0⟩ := rdS_at HR.out hq
      have HQ := Lib.hid hq
      clear hq
      by_cases he : q = x
      · have hb' := str_eq he
        have HEQ := Lib.hid he
        clear he
        go_wp2
        refine bodyPost_ret (results_tmp rfl _ _ _) rfl ?_
        refine ⟨?_, rfl⟩
        rw [decide_eq_true (idxS_lt.2 (HEQ.out ▸ List.mem_of_getElem? HQ.out))]; rfl
      · have hb' := str_ne he
        have HEQ := Lib.hid he
        clear he
        go_wp2
        go_roundw
        case rel => exact ⟨j + 1, by omega, by go_num, trivial, fun i y hi hy => by
          rcases Nat.lt_or_ge i j with h1 | h1
          · exact HP.out i y h1 hy
          · obtain rfl : i = j := by omega
            rw [HQ.out] at hy
            cases hy
            exact HEQ.out⟩
        case measure => simp [intOf]; omega
    · obtain rfl : j = L.length := by omega
      go_wp2
      refine bodyPost_ret (results_tmp rfl _ _ _) rfl ?_
      refine ⟨?_, rfl⟩
      rw [decide_eq_false (fun hh => by
        obtain ⟨i, hi, e⟩ := List.getElem_of_mem (idxS_lt.1 hh)
        exact HP.out i x hi (by rw [List.getElem?_eq_getElem hi, e]) rfl)]; rfl

theorem add_any (v : Value) (l : List ByteArray) (s : ByteArray) (w : World) (h : rowE elS w v l) (hl : l.length ≤ 100000) (hr : RiseS l) :
    Calls Tryd.prog 59 #[v, .string s] w fun e w' => ∃ v', e = .returned v' ∧ rowE elS w' v' (addS l s) ∧ Ext w w' := by
  rcases rowE_cases h with ⟨rfl, rfl⟩ | ⟨g, cap, cur, rfl, hg, -⟩
  · have HOUT := Lib.hid (add_out (s := s) hr (fun y hy => by simp at hy))
    obtain ⟨l, hl0⟩ : ∃ l : List ByteArray, l = [] := ⟨_, rfl⟩
    rw [← hl0] at HOUT ⊢
    clear hr h
    go_enter Tryd.func59, Tryd.ntmps59
    go_wp2
    go_loopw [5] (fun x wr => x = .int .i64 0 ∧ wr = w) (fun _ _ => 0)
    case atStart => exact ⟨rfl, rfl⟩
    case round =>
      obtain ⟨rfl, hw⟩ := hrel
      subst hw
      rename World => w
      have hp0 : posS l s = 0 := by rw [hl0]; rfl
      rw [hp0] at HOUT
      have hld : l.drop 0 = [] := by rw [hl0]; rfl
      have hlt : l.take 0 = [] := rfl
      have HLD := Lib.hid hld
      have hll : l.length = 0 := by rw [hl0]; rfl
      clear hl0 hp0 hld hlt
      go_wp2_with (at_builtin; refine halt_here ?_)
      all_goals
        refine go_on ?_
        refine wpList_append rfl (.tmp 34) (.tmp 37) rfl _ _ rfl rfl (fun v' w' => Ext (w.alloc (.cells #[] 9)) w' ∧ rowF elS w.heap.size (l.drop 0) v' w') (append_copy tpS _ w.heap.size _ _ (l.drop 0) _ ⟨w.heap.size, rfl, Nat.le_refl _, heap_alloc_new w _⟩ (srcOf_ext (ext_alloc (ext_refl _) _) (by rw [HLD.out]; exact srcOf_nil _ _ _)) (by first | (simp; done) | (simp; omega))) ?_
        rintro v5 w5 ⟨hE5, hR5⟩
        have HE5 := Lib.hid (ext_trans (ext_alloc (ext_refl w) (.cells #[] 9)) hE5)
        have HR5 := Lib.hid hR5
        clear hE5 hR5
        go_wp2_with (at_builtin; refine halt_here ?_)
        refine go_on ?_
        refine wpList_append rfl (.tmp 39) (.tmp 42) rfl _ _ rfl rfl (fun v' w' => Ext (w5.alloc (.cells #[] 9)) w' ∧ rowF elS w5.heap.size (l.take 0) v' w') (append_copy tpS _ w5.heap.size _ _ (l.take 0) _ ⟨w5.heap.size, rfl, Nat.le_refl _, heap_alloc_new w5 _⟩ (srcOf_ext (ext_alloc (ext_refl _) _) (by rw [List.take_zero]; exact srcOf_nil _ _ _)) (by first | (simp; done) | (simp; omega))) ?_
        rintro v6 w6 ⟨hE6, hR6⟩
        have HE6 := Lib.hid (ext_alloc (ext_trans (ext_alloc (ext_refl w5) (.cells #[] 9)) hE6) (.cells #[.string s] 9))
        have HR6 := Lib.hid (rowF_ext _ _ _ (ext_alloc (ext_refl w6) (.cells #[.string s] 9)) hR6)
        clear hE6 hR6
        go_wp2_with (at_builtin; refine halt_here ?_)
        refine go_on ?_
        refine wpList_append rfl (.tmp 43) (.tmp 45) rfl v6 _ rfl rfl (fun v' w' => rowF elS w5.heap.size (l.take 0 ++ [s]) v' w' ∧ (w6.alloc (.cells #[.string s] 9)).grownBy w' v6.ownBlock) (append_onto tpS _ w5.heap.size v6 _ (l.take 0) [s] (w6.alloc (.cells #[.string s] 9)) HR6.out (srcOf_one (H := 0) ⟨w6.heap.size, rfl, Nat.zero_le _, heap_alloc_new w6 _⟩) (by first | (simp; done) | (simp; omega)) (ext_size HE6.out)) ?_
        rintro v7 w7 ⟨hR7, hG7⟩
        have HE7 := Lib.hid (ext_grown HE6.out hG7 HR6.out.2 (Nat.le_refl _))
        have HR7 := Lib.hid hR7
        clear hR7 hG7
        go_wp2_with (at_builtin; refine halt_here ?_)
        refine go_on ?_
        refine wpList_append rfl (.tmp 46) (.tmp 47) rfl v7 v5 rfl rfl (fun v' w' => rowF elS w5.heap.size (l.take 0 ++ [s] ++ l.drop 0) v' w' ∧ w7.grownBy w' v7.ownBlock) (append_onto tpS _ w5.heap.size v7 v5 (l.take 0 ++ [s]) (l.drop 0) w7 HR7.out (srcOf_row (rowE_ext HR5.out.1 HE7.out)) (by first | (simp; done) | (simp; omega)) (ext_size HE7.out)) ?_
        rintro v8 w8 ⟨hR8, hG8⟩
        have HE8 := Lib.hid (ext_trans HE5.out (ext_grown HE7.out hG8 HR7.out.2 (Nat.le_refl _)))
        have HR8 := Lib.hid hR8
        clear hR8 hG8
        go_wp2
        refine bodyPost_ret (results_tmp rfl _ _ _) rfl ?_
        exact ⟨v8, rfl, by rw [HOUT.out, List.append_cons]; exact HR8.out.1, HE8.out⟩
  · have HROW := Lib.hid h
    have HG := Lib.hid hg
    have HR := Lib.hid hr
    have lg := block_lt hg
    have hcap := (rowE_cap h).2
    clear h hg hr
    obtain ⟨p, hp⟩ : ∃ p, p = posS l s := ⟨_, rfl⟩
    have hpl : p ≤ l.length := by rw [hp]; exact posS_le l s
    have HPP := Lib.hid hp
    clear hp
    go_enter Tryd.func59, Tryd.ntmps59
    go_wp2
    go_loopw [5] (fun x wr => ∃ j : Nat, j ≤ p ∧ x = .int .i64 j ∧ wr = w) (fun x _ => p - (intOf x).toNat)
    case atStart => exact ⟨0, Nat.zero_le _, rfl, rfl⟩
    case round =>
      obtain ⟨j, hj, rfl, hw⟩ := hrel
      subst hw
      rename World => w
      have hj0 : (0 : Int) ≤ (j : Int) := by omega
      by_cases hjp : j < p
      · obtain ⟨y, hy, hls⟩ := posS_lt (l := l) (s := s) (j := j) (by rw [← HPP.out]; exact hjp)
        have hji : (j : Int) < (l.length : Int) := by omega
        have q0 := rowS_cell HROW.out hy
        clear hy
        go_wp2
        go_roundw
        case rel => exact ⟨j + 1, by omega, by go_num, trivial⟩
        case measure => simp [intOf]; omega
      · obtain rfl : j = p := by omega
        by_cases hlt : j < l.length
        · have hji : (j : Int) < (l.length : Int) := by omega
          obtain ⟨y, hy⟩ : ∃ y, l[j]? = some y := ⟨_, List.getElem?_eq_getElem hlt⟩
          have hls := posS_ge (s := s) (l := l) (y := y) (by rw [← HPP.out]; exact hy)
          have q0 := rowS_cell HROW.out hy
          have HY := Lib.hid hy
          clear hy
          by_cases he : y = s
          · have hb := str_eq he
            have HEQ := Lib.hid he
            clear he
            go_wp2
            refine bodyPost_ret (results_tmp rfl _ _ _) rfl ?_
            exact ⟨_, rfl, by rw [add_in (by rw [← HPP.out, HY.out, HEQ.out])]; exact HROW.out, ext_refl _⟩
          · have hb := str_ne he
            have HOUT := Lib.hid (add_out HR.out (s := s) (fun z hz => by rw [← HPP.out, HY.out] at hz; cases hz; exact he))
            rw [← HPP.out] at HOUT
            clear he
            have hjc : (j : Int) ≤ (cap : Int) := by omega
            have hjl : (j : Int) ≤ (l.length : Int) := by omega
            go_wp2_with (at_builtin; refine halt_here ?_)
            all_goals
              refine go_on ?_
              refine wpList_append rfl (.tmp 34) (.tmp 37) rfl _ _ rfl rfl (fun v' w' => Ext (w.alloc (.cells #[] 9)) w' ∧ rowF elS w.heap.size (l.drop j) v' w') (append_copy tpS _ w.heap.size _ _ (l.drop j) _ ⟨w.heap.size, rfl, Nat.le_refl _, heap_alloc_new w _⟩ (srcOf_ext (ext_alloc (ext_refl _) _) (srcOf_drop j HROW.out _ _ _ (by simp) (fun h => by first | (simp [elS]; done) | omega))) (by first | (simp; done) | (simp; omega))) ?_
              rintro v5 w5 ⟨hE5, hR5⟩
              have HE5 := Lib.hid (ext_trans (ext_alloc (ext_refl w) (.cells #[] 9)) hE5)
              have HR5 := Lib.hid hR5
              clear hE5 hR5
              go_wp2_with (at_builtin; refine halt_here ?_)
              refine go_on ?_
              refine wpList_append rfl (.tmp 39) (.tmp 42) rfl _ _ rfl rfl (fun v' w' => Ext (w5.alloc (.cells #[] 9)) w' ∧ rowF elS w5.heap.size (l.take j) v' w') (append_copy tpS _ w5.heap.size _ _ (l.take j) _ ⟨w5.heap.size, rfl, Nat.le_refl _, heap_alloc_new w5 _⟩ (srcOf_ext (ext_alloc (ext_refl _) _) (srcOf_take j (by omega) (rowE_ext HROW.out HE5.out) _)) (by first | (simp; done) | (simp; omega))) ?_
              rintro v6 w6 ⟨hE6, hR6⟩
              have HE6 := Lib.hid (ext_alloc (ext_trans (ext_alloc (ext_refl w5) (.cells #[] 9)) hE6) (.cells #[.string s] 9))
              have HR6 := Lib.hid (rowF_ext _ _ _ (ext_alloc (ext_refl w6) (.cells #[.string s] 9)) hR6)
              clear hE6 hR6
              go_wp2_with (at_builtin; refine halt_here ?_)
              refine go_on ?_
              refine wpList_append rfl (.tmp 43) (.tmp 45) rfl v6 _ rfl rfl (fun v' w' => rowF elS w5.heap.size (l.take j ++ [s]) v' w' ∧ (w6.alloc (.cells #[.string s] 9)).grownBy w' v6.ownBlock) (append_onto tpS _ w5.heap.size v6 _ (l.take j) [s] (w6.alloc (.cells #[.string s] 9)) HR6.out (srcOf_one (H := 0) ⟨w6.heap.size, rfl, Nat.zero_le _, heap_alloc_new w6 _⟩) (by first | (simp; done) | (simp; omega)) (ext_size HE6.out)) ?_
              rintro v7 w7 ⟨hR7, hG7⟩
              have HE7 := Lib.hid (ext_grown HE6.out hG7 HR6.out.2 (Nat.le_refl _))
              have HR7 := Lib.hid hR7
              clear hR7 hG7
              go_wp2_with (at_builtin; refine halt_here ?_)
              refine go_on ?_
              refine wpList_append rfl (.tmp 46) (.tmp 47) rfl v7 v5 rfl rfl (fun v' w' => rowF elS w5.heap.size (l.take j ++ [s] ++ l.drop j) v' w' ∧ w7.grownBy w' v7.ownBlock) (append_onto tpS _ w5.heap.size v7 v5 (l.take j ++ [s]) (l.drop j) w7 HR7.out (srcOf_row (rowE_ext HR5.out.1 HE7.out)) (by first | (simp; done) | (simp; omega)) (ext_size HE7.out)) ?_
              rintro v8 w8 ⟨hR8, hG8⟩
              have HE8 := Lib.hid (ext_trans HE5.out (ext_grown HE7.out hG8 HR7.out.2 (Nat.le_refl _)))
              have HR8 := Lib.hid hR8
              clear hR8 hG8
              go_wp2
              refine bodyPost_ret (results_tmp rfl _ _ _) rfl ?_
              exact ⟨v8, rfl, by rw [HOUT.out, List.append_cons]; exact HR8.out.1, HE8.out⟩
        · have hjl : j = l.length := by omega
          have HOUT := Lib.hid (add_out HR.out (s := s) (fun z hz => by
            rw [← HPP.out, hjl] at hz
            simp at hz))
          rw [← HPP.out] at HOUT
          have hji : ¬ (j : Int) < (l.length : Int) := by omega
          have hjc : (j : Int) ≤ (cap : Int) := by omega
          have hjl' : (j : Int) ≤ (l.length : Int) := by omega
          clear hjl
          go_wp2_with (at_builtin; refine halt_here ?_)
          all_goals
            refine go_on ?_
            refine wpList_append rfl (.tmp 34) (.tmp 37) rfl _ _ rfl rfl (fun v' w' => Ext (w.alloc (.cells #[] 9)) w' ∧ rowF elS w.heap.size (l.drop j) v' w') (append_copy tpS _ w.heap.size _ _ (l.drop j) _ ⟨w.heap.size, rfl, Nat.le_refl _, heap_alloc_new w _⟩ (srcOf_ext (ext_alloc (ext_refl _) _) (srcOf_drop j HROW.out _ _ _ (by simp) (fun h => by first | (simp [elS]; done) | omega))) (by first | (simp; done) | (simp; omega))) ?_
            rintro v5 w5 ⟨hE5, hR5⟩
            have HE5 := Lib.hid (ext_trans (ext_alloc (ext_refl w) (.cells #[] 9)) hE5)
            have HR5 := Lib.hid hR5
            clear hE5 hR5
            go_wp2_with (at_builtin; refine halt_here ?_)
            refine go_on ?_
            refine wpList_append rfl (.tmp 39) (.tmp 42) rfl _ _ rfl rfl (fun v' w' => Ext (w5.alloc (.cells #[] 9)) w' ∧ rowF elS w5.heap.size (l.take j) v' w') (append_copy tpS _ w5.heap.size _ _ (l.take j) _ ⟨w5.heap.size, rfl, Nat.le_refl _, heap_alloc_new w5 _⟩ (srcOf_ext (ext_alloc (ext_refl _) _) (srcOf_take j (by omega) (rowE_ext HROW.out HE5.out) _)) (by first | (simp; done) | (simp; omega))) ?_
            rintro v6 w6 ⟨hE6, hR6⟩
            have HE6 := Lib.hid (ext_alloc (ext_trans (ext_alloc (ext_refl w5) (.cells #[] 9)) hE6) (.cells #[.string s] 9))
            have HR6 := Lib.hid (rowF_ext _ _ _ (ext_alloc (ext_refl w6) (.cells #[.string s] 9)) hR6)
            clear hE6 hR6
            go_wp2_with (at_builtin; refine halt_here ?_)
            refine go_on ?_
            refine wpList_append rfl (.tmp 43) (.tmp 45) rfl v6 _ rfl rfl (fun v' w' => rowF elS w5.heap.size (l.take j ++ [s]) v' w' ∧ (w6.alloc (.cells #[.string s] 9)).grownBy w' v6.ownBlock) (append_onto tpS _ w5.heap.size v6 _ (l.take j) [s] (w6.alloc (.cells #[.string s] 9)) HR6.out (srcOf_one (H := 0) ⟨w6.heap.size, rfl, Nat.zero_le _, heap_alloc_new w6 _⟩) (by first | (simp; done) | (simp; omega)) (ext_size HE6.out)) ?_
            rintro v7 w7 ⟨hR7, hG7⟩
            have HE7 := Lib.hid (ext_grown HE6.out hG7 HR6.out.2 (Nat.le_refl _))
            have HR7 := Lib.hid hR7
            clear hR7 hG7
            go_wp2_with (at_builtin; refine halt_here ?_)
            refine go_on ?_
            refine wpList_append rfl (.tmp 46) (.tmp 47) rfl v7 v5 rfl rfl (fun v' w' => rowF elS w5.heap.size (l.take j ++ [s] ++ l.drop j) v' w' ∧ w7.grownBy w' v7.ownBlock) (append_onto tpS _ w5.heap.size v7 v5 (l.take j ++ [s]) (l.drop j) w7 HR7.out (srcOf_row (rowE_ext HR5.out.1 HE7.out)) (by first | (simp; done) | (simp; omega)) (ext_size HE7.out)) ?_
            rintro v8 w8 ⟨hR8, hG8⟩
            have HE8 := Lib.hid (ext_trans HE5.out (ext_grown HE7.out hG8 HR7.out.2 (Nat.le_refl _)))
            have HR8 := Lib.hid hR8
            clear hR8 hG8
            go_wp2
            refine bodyPost_ret (results_tmp rfl _ _ _) rfl ?_
            exact ⟨v8, rfl, by rw [HOUT.out, List.append_cons]; exact HR8.out.1, HE8.out⟩

theorem putI_of {r : List VarN} {s : ByteArray} {n : Int} (hn : ¬ n < 0) (hg : ¬ 0 ≤ getR r s) : putR r s n = r.take (putAt r s) ++ (s, n) :: r.drop (putAt r s) := by
  unfold putR
  rw [if_neg (by omega), putI_cut]
theorem put_any (v : Value) (l : List VarN) (s : ByteArray) (n : Int) (w : World) (h : rowE elP w v l) (hl : l.length ≤ 100000) :
    Calls Tryd.prog 41 #[v, .string s, .int .i64 n] w fun e w' => ∃ v', e = .returned v' ∧ rowE elP w' v' (putR l s n) ∧ Ext w w' := by
  have HGET := Lib.hid (get_any v l s w h (by omega))
  by_cases hn : n < 0
  · have HPUT := Lib.hid (show putR l s n = l by unfold putR; rw [if_pos (.inl hn)])
    have HROW := Lib.hid h
    clear h HGET
    go_enter Tryd.func41, Tryd.ntmps41
    go_wp2
    refine bodyPost_ret (results_tmp rfl _ _ _) rfl ?_
    exact ⟨_, rfl, by rw [HPUT.out]; exact HROW.out, ext_refl _⟩
  have hn0 : 0 ≤ n := by omega
  by_cases hk : 0 ≤ getR l s
  · have HPUT := Lib.hid (show putR l s n = l by unfold putR; rw [if_pos (.inr hk)])
    have HROW := Lib.hid h
    obtain ⟨m, hm⟩ : ∃ m, m = getR l s := ⟨_, rfl⟩
    rw [← hm] at HGET hk
    clear h hm
    go_enter Tryd.func41, Tryd.ntmps41
    go_wp2_with (go_at_call 48; refine HGET.out.mono ?_; rintro e w1 ⟨rfl, rfl⟩)
    refine bodyPost_ret (results_tmp rfl _ _ _) rfl ?_
    exact ⟨_, rfl, by rw [HPUT.out]; exact HROW.out, ext_refl _⟩
  have HOUT := Lib.hid (putI_of hn hk)
  obtain ⟨m, hm⟩ : ∃ m, m = getR l s := ⟨_, rfl⟩
  rw [← hm] at HGET hk
  have hk' : m < 0 := by omega
  clear hm hn hk
  rcases rowE_cases h with ⟨rfl, rfl⟩ | ⟨g, cap, cur, rfl, hg, -⟩
  · obtain ⟨l, hl0⟩ : ∃ l : List VarN, l = [] := ⟨_, rfl⟩
    rw [← hl0] at HOUT ⊢
    clear h
    go_enter Tryd.func41, Tryd.ntmps41
    go_wp2_with (go_at_call 48; refine HGET.out.mono ?_; rintro e w1 ⟨rfl, rfl⟩)
    rename World => w
    go_loopw [7] (fun x wr => x = .int .i64 0 ∧ wr = w) (fun _ _ => 0)
    case atStart => exact ⟨rfl, rfl⟩
    case round =>
      obtain ⟨rfl, hw⟩ := hrel
      subst hw
      rename World => w
      have hp0 : putAt l s = 0 := by rw [hl0]; rfl
      rw [hp0] at HOUT
      have hld : l.drop 0 = [] := by rw [hl0]; rfl
      have HLD := Lib.hid hld
      have hll : l.length = 0 := by rw [hl0]; rfl
      clear hl0 hp0 hld
      go_wp2_with (at_builtin; refine halt_here ?_)
      all_goals
        refine go_on ?_
        refine wpList_append rfl (.tmp 33) (.tmp 36) rfl _ _ rfl rfl (fun v' w' => Ext (w.alloc (.cells #[] 81)) w' ∧ rowF elP w.heap.size (l.drop 0) v' w') (append_copy tpP _ w.heap.size _ _ (l.drop 0) _ ⟨w.heap.size, rfl, Nat.le_refl _, heap_alloc_new w _⟩ (srcOf_ext (ext_alloc (ext_refl _) _) (by rw [HLD.out]; exact srcOf_nil _ _ _)) (by first | (simp; done) | (simp; omega))) ?_
        rintro v5 w5 ⟨hE5, hR5⟩
        have HE5 := Lib.hid (ext_trans (ext_alloc (ext_refl w) (.cells #[] 81)) hE5)
        have HR5 := Lib.hid hR5
        clear hE5 hR5
        go_wp2_with (at_builtin; refine halt_here ?_)
        refine go_on ?_
        refine wpList_append rfl (.tmp 38) (.tmp 41) rfl _ _ rfl rfl (fun v' w' => Ext (w5.alloc (.cells #[] 81)) w' ∧ rowF elP w5.heap.size (l.take 0) v' w') (append_copy tpP _ w5.heap.size _ _ (l.take 0) _ ⟨w5.heap.size, rfl, Nat.le_refl _, heap_alloc_new w5 _⟩ (srcOf_ext (ext_alloc (ext_refl _) _) (by rw [List.take_zero]; exact srcOf_nil _ _ _)) (by first | (simp; done) | (simp; omega))) ?_
        rintro v6 w6 ⟨hE6, hR6⟩
        have HE6 := Lib.hid (ext_alloc (ext_trans (ext_alloc (ext_refl w5) (.cells #[] 81)) hE6) (.cells #[.string s, .int .i64 n] 81))
        have HR6 := Lib.hid (rowF_ext _ _ _ (ext_alloc (ext_refl w6) (.cells #[.string s, .int .i64 n] 81)) hR6)
        clear hE6 hR6
        go_wp2_with (at_builtin; refine halt_here ?_)
        refine go_on ?_
        refine wpList_append rfl (.tmp 42) (.tmp 46) rfl v6 _ rfl rfl (fun v' w' => rowF elP w5.heap.size (l.take 0 ++ [(s, n)]) v' w' ∧ (w6.alloc (.cells #[.string s, .int .i64 n] 81)).grownBy w' v6.ownBlock) (append_onto tpP _ w5.heap.size v6 _ (l.take 0) [(s, n)] (w6.alloc (.cells #[.string s, .int .i64 n] 81)) HR6.out (srcOf_one (H := 0) ⟨w6.heap.size, rfl, Nat.zero_le _, heap_alloc_new w6 _⟩) (by first | (simp; done) | (simp; omega)) (ext_size HE6.out)) ?_
        rintro v7 w7 ⟨hR7, hG7⟩
        have HE7 := Lib.hid (ext_grown HE6.out hG7 HR6.out.2 (Nat.le_refl _))
        have HR7 := Lib.hid hR7
        clear hR7 hG7
        go_wp2_with (at_builtin; refine halt_here ?_)
        refine go_on ?_
        refine wpList_append rfl (.tmp 47) (.tmp 48) rfl v7 v5 rfl rfl (fun v' w' => rowF elP w5.heap.size (l.take 0 ++ [(s, n)] ++ l.drop 0) v' w' ∧ w7.grownBy w' v7.ownBlock) (append_onto tpP _ w5.heap.size v7 v5 (l.take 0 ++ [(s, n)]) (l.drop 0) w7 HR7.out (srcOf_row (rowE_ext HR5.out.1 HE7.out)) (by first | (simp; done) | (simp; omega)) (ext_size HE7.out)) ?_
        rintro v8 w8 ⟨hR8, hG8⟩
        have HE8 := Lib.hid (ext_trans HE5.out (ext_grown HE7.out hG8 HR7.out.2 (Nat.le_refl _)))
        have HR8 := Lib.hid hR8
        clear hR8 hG8
        go_wp2
        refine bodyPost_ret (results_tmp rfl _ _ _) rfl ?_
        exact ⟨v8, rfl, by rw [HOUT.out, List.append_cons]; exact HR8.out.1, HE8.out⟩
  · have HROW := Lib.hid h
    have HG := Lib.hid hg
    have lg := block_lt hg
    have hcap := (rowE_cap h).2
    clear h hg
    obtain ⟨p, hp⟩ : ∃ p, p = putAt l s := ⟨_, rfl⟩
    have hpl : p ≤ l.length := by rw [hp]; exact putAt_le l s
    have HPP := Lib.hid hp
    rw [← hp] at HOUT
    clear hp
    go_enter Tryd.func41, Tryd.ntmps41
    go_wp2_with (go_at_call 48; refine HGET.out.mono ?_; rintro e w1 ⟨rfl, hw1⟩; subst hw1)
    rename World => w
    go_loopw [7] (fun x wr => ∃ j : Nat, j ≤ p ∧ x = .int .i64 j ∧ wr = w) (fun x _ => p - (intOf x).toNat)
    case atStart => exact ⟨0, Nat.zero_le _, rfl, rfl⟩
    case round =>
      obtain ⟨j, hj, rfl, hw⟩ := hrel
      subst hw
      rename World => w
      have hj0 : (0 : Int) ≤ (j : Int) := by omega
      by_cases hjp : j < p
      · obtain ⟨y, hy, hls⟩ := putAt_lt (r := l) (v := s) (j := j) (by rw [← HPP.out]; exact hjp)
        have hji : (j : Int) < (l.length : Int) := by omega
        obtain ⟨q0, q1⟩ := rowP_cell HROW.out hy
        clear hy
        go_wp2
        go_roundw
        case rel => exact ⟨j + 1, by omega, by go_num, trivial⟩
        case measure => simp [intOf]; omega
      · obtain rfl : j = p := by omega
        by_cases hlt : j < l.length
        · have hji : (j : Int) < (l.length : Int) := by omega
          obtain ⟨y, hy⟩ : ∃ y, l[j]? = some y := ⟨_, List.getElem?_eq_getElem hlt⟩
          have hls := putAt_ge (r := l) (v := s) (q := y) (by rw [← HPP.out]; exact hy)
          obtain ⟨q0, q1⟩ := rowP_cell HROW.out hy
          clear hy
          have hjc : (j : Int) ≤ (cap : Int) := by omega
          have hjl : (j : Int) ≤ (l.length : Int) := by omega
          go_wp2_with (at_builtin; refine halt_here ?_)
          all_goals
            refine go_on ?_
            refine wpList_append rfl (.tmp 33) (.tmp 36) rfl _ _ rfl rfl (fun v' w' => Ext (w.alloc (.cells #[] 81)) w' ∧ rowF elP w.heap.size (l.drop j) v' w') (append_copy tpP _ w.heap.size _ _ (l.drop j) _ ⟨w.heap.size, rfl, Nat.le_refl _, heap_alloc_new w _⟩ (srcOf_ext (ext_alloc (ext_refl _) _) (srcOf_drop j HROW.out _ _ _ (by simp) (fun h => by first | (simp [elP]; done) | omega))) (by first | (simp; done) | (simp; omega))) ?_
            rintro v5 w5 ⟨hE5, hR5⟩
            have HE5 := Lib.hid (ext_trans (ext_alloc (ext_refl w) (.cells #[] 81)) hE5)
            have HR5 := Lib.hid hR5
            clear hE5 hR5
            go_wp2_with (at_builtin; refine halt_here ?_)
            refine go_on ?_
            refine wpList_append rfl (.tmp 38) (.tmp 41) rfl _ _ rfl rfl (fun v' w' => Ext (w5.alloc (.cells #[] 81)) w' ∧ rowF elP w5.heap.size (l.take j) v' w') (append_copy tpP _ w5.heap.size _ _ (l.take j) _ ⟨w5.heap.size, rfl, Nat.le_refl _, heap_alloc_new w5 _⟩ (srcOf_ext (ext_alloc (ext_refl _) _) (srcOf_take j (by omega) (rowE_ext HROW.out HE5.out) _)) (by first | (simp; done) | (simp; omega))) ?_
            rintro v6 w6 ⟨hE6, hR6⟩
            have HE6 := Lib.hid (ext_alloc (ext_trans (ext_alloc (ext_refl w5) (.cells #[] 81)) hE6) (.cells #[.string s, .int .i64 n] 81))
            have HR6 := Lib.hid (rowF_ext _ _ _ (ext_alloc (ext_refl w6) (.cells #[.string s, .int .i64 n] 81)) hR6)
            clear hE6 hR6
            go_wp2_with (at_builtin; refine halt_here ?_)
            refine go_on ?_
            refine wpList_append rfl (.tmp 42) (.tmp 46) rfl v6 _ rfl rfl (fun v' w' => rowF elP w5.heap.size (l.take j ++ [(s, n)]) v' w' ∧ (w6.alloc (.cells #[.string s, .int .i64 n] 81)).grownBy w' v6.ownBlock) (append_onto tpP _ w5.heap.size v6 _ (l.take j) [(s, n)] (w6.alloc (.cells #[.string s, .int .i64 n] 81)) HR6.out (srcOf_one (H := 0) ⟨w6.heap.size, rfl, Nat.zero_le _, heap_alloc_new w6 _⟩) (by first | (simp; done) | (simp; omega)) (ext_size HE6.out)) ?_
            rintro v7 w7 ⟨hR7, hG7⟩
            have HE7 := Lib.hid (ext_grown HE6.out hG7 HR6.out.2 (Nat.le_refl _))
            have HR7 := Lib.hid hR7
            clear hR7 hG7
            go_wp2_with (at_builtin; refine halt_here ?_)
            refine go_on ?_
            refine wpList_append rfl (.tmp 47) (.tmp 48) rfl v7 v5 rfl rfl (fun v' w' => rowF elP w5.heap.size (l.take j ++ [(s, n)] ++ l.drop j) v' w' ∧ w7.grownBy w' v7.ownBlock) (append_onto tpP _ w5.heap.size v7 v5 (l.take j ++ [(s, n)]) (l.drop j) w7 HR7.out (srcOf_row (rowE_ext HR5.out.1 HE7.out)) (by first | (simp; done) | (simp; omega)) (ext_size HE7.out)) ?_
            rintro v8 w8 ⟨hR8, hG8⟩
            have HE8 := Lib.hid (ext_trans HE5.out (ext_grown HE7.out hG8 HR7.out.2 (Nat.le_refl _)))
            have HR8 := Lib.hid hR8
            clear hR8 hG8
            go_wp2
            refine bodyPost_ret (results_tmp rfl _ _ _) rfl ?_
            exact ⟨v8, rfl, by rw [HOUT.out, List.append_cons]; exact HR8.out.1, HE8.out⟩
        · have hjl : j = l.length := by omega
          have hji : ¬ (j : Int) < (l.length : Int) := by omega
          have hjc : (j : Int) ≤ (cap : Int) := by omega
          have hjl' : (j : Int) ≤ (l.length : Int) := by omega
          clear hjl
          go_wp2_with (at_builtin; refine halt_here ?_)
          all_goals
            refine go_on ?_
            refine wpList_append rfl (.tmp 33) (.tmp 36) rfl _ _ rfl rfl (fun v' w' => Ext (w.alloc (.cells #[] 81)) w' ∧ rowF elP w.heap.size (l.drop j) v' w') (append_copy tpP _ w.heap.size _ _ (l.drop j) _ ⟨w.heap.size, rfl, Nat.le_refl _, heap_alloc_new w _⟩ (srcOf_ext (ext_alloc (ext_refl _) _) (srcOf_drop j HROW.out _ _ _ (by simp) (fun h => by first | (simp [elP]; done) | omega))) (by first | (simp; done) | (simp; omega))) ?_
            rintro v5 w5 ⟨hE5, hR5⟩
            have HE5 := Lib.hid (ext_trans (ext_alloc (ext_refl w) (.cells #[] 81)) hE5)
            have HR5 := Lib.hid hR5
            clear hE5 hR5
            go_wp2_with (at_builtin; refine halt_here ?_)
            refine go_on ?_
            refine wpList_append rfl (.tmp 38) (.tmp 41) rfl _ _ rfl rfl (fun v' w' => Ext (w5.alloc (.cells #[] 81)) w' ∧ rowF elP w5.heap.size (l.take j) v' w') (append_copy tpP _ w5.heap.size _ _ (l.take j) _ ⟨w5.heap.size, rfl, Nat.le_refl _, heap_alloc_new w5 _⟩ (srcOf_ext (ext_alloc (ext_refl _) _) (srcOf_take j (by omega) (rowE_ext HROW.out HE5.out) _)) (by first | (simp; done) | (simp; omega))) ?_
            rintro v6 w6 ⟨hE6, hR6⟩
            have HE6 := Lib.hid (ext_alloc (ext_trans (ext_alloc (ext_refl w5) (.cells #[] 81)) hE6) (.cells #[.string s, .int .i64 n] 81))
            have HR6 := Lib.hid (rowF_ext _ _ _ (ext_alloc (ext_refl w6) (.cells #[.string s, .int .i64 n] 81)) hR6)
            clear hE6 hR6
            go_wp2_with (at_builtin; refine halt_here ?_)
            refine go_on ?_
            refine wpList_append rfl (.tmp 42) (.tmp 46) rfl v6 _ rfl rfl (fun v' w' => rowF elP w5.heap.size (l.take j ++ [(s, n)]) v' w' ∧ (w6.alloc (.cells #[.string s, .int .i64 n] 81)).grownBy w' v6.ownBlock) (append_onto tpP _ w5.heap.size v6 _ (l.take j) [(s, n)] (w6.alloc (.cells #[.string s, .int .i64 n] 81)) HR6.out (srcOf_one (H := 0) ⟨w6.heap.size, rfl, Nat.zero_le _, heap_alloc_new w6 _⟩) (by first | (simp; done) | (simp; omega)) (ext_size HE6.out)) ?_
            rintro v7 w7 ⟨hR7, hG7⟩
            have HE7 := Lib.hid (ext_grown HE6.out hG7 HR6.out.2 (Nat.le_refl _))
            have HR7 := Lib.hid hR7
            clear hR7 hG7
            go_wp2_with (at_builtin; refine halt_here ?_)
            refine go_on ?_
            refine wpList_append rfl (.tmp 47) (.tmp 48) rfl v7 v5 rfl rfl (fun v' w' => rowF elP w5.heap.size (l.take j ++ [(s, n)] ++ l.drop j) v' w' ∧ w7.grownBy w' v7.ownBlock) (append_onto tpP _ w5.heap.size v7 v5 (l.take j ++ [(s, n)]) (l.drop j) w7 HR7.out (srcOf_row (rowE_ext HR5.out.1 HE7.out)) (by first | (simp; done) | (simp; omega)) (ext_size HE7.out)) ?_
            rintro v8 w8 ⟨hR8, hG8⟩
            have HE8 := Lib.hid (ext_trans HE5.out (ext_grown HE7.out hG8 HR7.out.2 (Nat.le_refl _)))
            have HR8 := Lib.hid hR8
            clear hR8 hG8
            go_wp2
            refine bodyPost_ret (results_tmp rfl _ _ _) rfl ?_
            exact ⟨v8, rfl, by rw [HOUT.out, List.append_cons]; exact HR8.out.1, HE8.out⟩

theorem addS_len (l : List ByteArray) (s : ByteArray) : (addS l s).length ≤ l.length + 1 := by
  unfold addS
  split
  · omega
  · have := congrArg List.length (List.takeWhile_append_dropWhile (p := (ltS · s)) (l := l))
    rw [List.length_append] at this
    rw [List.length_append, List.length_cons]
    omega
theorem fold_len : ∀ (l out : List ByteArray), (l.foldl addS out).length ≤ out.length + l.length
  | [], out => by simp
  | s :: l, out => by
    have := fold_len l (addS out s)
    have := addS_len out s
    rw [List.foldl_cons, List.length_cons]
    omega
theorem fold_take {L : List ByteArray} {j : Nat} {x : ByteArray} (hx : L[j]? = some x) (out : List ByteArray) : (L.take (j + 1)).foldl addS out = addS ((L.take j).foldl addS out) x := by
  rw [List.take_add_one, hx, List.foldl_append]; rfl
theorem setS_app (U V : List ByteArray) : V.foldl addS (setS U) = setS (U ++ V) := by
  unfold setS
  rw [List.foldl_append]
theorem both_any (v u : Value) (U V : List ByteArray) (w : World) (hv : RdS w v U) (hu : RdS w u V) (h1 : U.length ≤ 40000) (h2 : V.length ≤ 40000) :
    Calls Tryd.prog 26 #[v, u] w fun e w' => ∃ v', e = .returned v' ∧ rowE elS w' v' (setS (U ++ V)) ∧ Ext w w' := by
  obtain ⟨A, c, rfl⟩ := rdS_form hv
  obtain ⟨B, d, rfl⟩ := rdS_form hu
  have HU := Lib.hid hv
  have HV := Lib.hid hu
  clear hv hu
  go_enter Tryd.func26, Tryd.ntmps26
  go_wp2
  go_loopw [10, 5] (fun x y wr => ∃ j : Nat, j ≤ U.length ∧ x = .int .i64 j ∧ rowE elS wr y ((U.take j).foldl addS []) ∧ Ext w wr) (fun x _ _ => U.length - (intOf x).toNat)
  case atStart => exact ⟨0, Nat.zero_le _, rfl, rowE_nil w, ext_refl _⟩
  case round =>
    rename World => wo
    obtain ⟨j, hj, rfl, hr, hE⟩ := hrel
    have HR := Lib.hid hr
    have HE := Lib.hid hE
    clear hr hE
    by_cases hlt : j < U.length
    · have hji : (j : Int) < (U.length : Int) := by omega
      have hj0 : (0 : Int) ≤ (j : Int) := by omega
      obtain ⟨x, hx⟩ : ∃ x, U[j]? = some x := ⟨_, List.getElem?_eq_getElem hlt⟩
      obtain ⟨b, off, rfl, hb, q0⟩ := rdS_at (rdS_ext HU.out HE.out) hx
      have HX := Lib.hid hx
      have hfl := fold_len (U.take j) []
      rw [List.length_take] at hfl
      have hfl' : ((U.take j).foldl addS []).length ≤ 100000 := by simp at hfl; omega
      have HC := Lib.hid (add_any _ _ x wo HR.out hfl' (set_spec (U.take j) [] .nil).1)
      clear hx hfl hfl'
      go_wp2_with (go_at_call 59; refine HC.out.mono ?_; rintro e w1 ⟨v1, rfl, hr1, hE1⟩; have HR1 := Lib.hid hr1; have HE1 := Lib.hid (ext_trans HE.out hE1); clear hr1 hE1)
      go_roundw
      case rel => exact ⟨j + 1, by omega, by go_num, by rw [fold_take HX.out]; exact HR1.out, HE1.out⟩
      case measure => simp [intOf]; omega
    · obtain rfl : j = U.length := by omega
      have hr := HR.out
      rw [List.take_length] at hr
      have HR := Lib.hid (show rowE elS wo _ (setS U) from hr)
      clear hr
      have hsl := setS_length U
      go_wp2
      go_loopw [22, 5] (fun x y wr => ∃ k : Nat, k ≤ V.length ∧ x = .int .i64 k ∧ rowE elS wr y ((V.take k).foldl addS (setS U)) ∧ Ext w wr) (fun x _ _ => V.length - (intOf x).toNat)
      case atStart => exact ⟨0, Nat.zero_le _, rfl, HR.out, HE.out⟩
      case round =>
        rename World => wi
        obtain ⟨k, hk, rfl, hr, hE⟩ := hrel
        have HR := Lib.hid hr
        have HE := Lib.hid hE
        clear hr hE
        by_cases hlt : k < V.length
        · have hji : (k : Int) < (V.length : Int) := by omega
          have hj0 : (0 : Int) ≤ (k : Int) := by omega
          obtain ⟨x, hx⟩ : ∃ x, V[k]? = some x := ⟨_, List.getElem?_eq_getElem hlt⟩
          obtain ⟨b, off, rfl, hb, q0⟩ := rdS_at (rdS_ext HV.out HE.out) hx
          have HX := Lib.hid hx
          have hfl := fold_len (V.take k) (setS U)
          rw [List.length_take] at hfl
          have hfl' : ((V.take k).foldl addS (setS U)).length ≤ 100000 := by omega
          have HC := Lib.hid (add_any _ _ x wi HR.out hfl' (set_spec (V.take k) (setS U) (rise_setS U)).1)
          clear hx hfl hfl'
          go_wp2_with (go_at_call 59; refine HC.out.mono ?_; rintro e w1 ⟨v1, rfl, hr1, hE1⟩; have HR1 := Lib.hid hr1; have HE1 := Lib.hid (ext_trans HE.out hE1); clear hr1 hE1)
          go_roundw
          case rel => exact ⟨k + 1, by omega, by go_num, by rw [fold_take HX.out]; exact HR1.out, HE1.out⟩
          case measure => simp [intOf]; omega
        · obtain rfl : k = V.length := by omega
          go_wp2
          refine bodyPost_ret (results_tmp rfl _ _ _) rfl ?_
          exact ⟨_, rfl, by have := HR.out; rw [List.take_length, setS_app] at this; exact this, HE.out⟩
end Go.Proofs.YtniggdaakiofeaaDoor
