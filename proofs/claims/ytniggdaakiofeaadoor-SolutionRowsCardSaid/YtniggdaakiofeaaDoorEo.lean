/- What Sort sorts by; slices.SortStableFunc at few rows; Sort. -/
import Derived.Shelf.Abstract
import Derived.Test.YtniggdaakiofeaaDoorEj
import Derived.Test.YtniggdaakiofeaaDoorSe
import Derived.Shelf.SlSortCmp.Insertion1
import Derived.Test.YtniggdaakiofeaaDoorTh
import Derived.Test.YtniggdaakiofeaaDoorDt
import Derived.Test.YtniggdaakiofeaaDoorTg
namespace Go.Proofs.YtniggdaakiofeaaDoor
open Go Go.RowKit Go.Sort
set_option maxHeartbeats 4000000
/- of this seat alone: 80 -/

theorem nan_any (x : Int) (w : World) : Calls Tryd.prog 82 #[.int .i64 x] w fun e w' => e = .returned (.bool false) ∧ w' = w := by
  have hx : (x != x) = false := by simp
  go_enter Tryd.func82, Tryd.ntmps82
  go_wp2
  refine bodyPost_ret (results_tmp rfl _ _ _) rfl ?_
  first | exact ⟨rfl, rfl⟩ | (refine ⟨?_, rfl⟩; simp)
def cmpI (x y : Int) : Int := if x < y then -1 else if y < x then 1 else 0
theorem compare_any (x y : Int) (w : World) : Calls Tryd.prog 68 #[.int .i64 x, .int .i64 y] w fun e w' => e = .returned (.int .i64 (cmpI x y)) ∧ w' = w := by
  have HX := Lib.hid (nan_any x w)
  have HY := Lib.hid (nan_any y w)
  obtain ⟨c, hc⟩ : ∃ c, c = cmpI x y := ⟨_, rfl⟩
  rw [← hc]
  have HC := Lib.hid hc
  clear hc
  by_cases h1 : x < y
  · have HV := Lib.hid (show cmpI x y = -1 by rw [cmpI, if_pos h1])
    go_enter Tryd.func68, Tryd.ntmps68
    go_wp2_with (go_at_call 82; first | (refine HX.out.mono ?_; rintro e w1 ⟨rfl, rfl⟩; clear HX) | (refine HY.out.mono ?_; rintro e w1 ⟨rfl, rfl⟩; clear HY))
    refine bodyPost_ret (results_tmp rfl _ _ _) rfl ?_
    exact ⟨by rw [HC.out, HV.out]; rfl, rfl⟩
  · by_cases h2 : y < x
    · have h3 : x > y := h2
      have HV := Lib.hid (show cmpI x y = 1 by rw [cmpI, if_neg h1, if_pos h2])
      go_enter Tryd.func68, Tryd.ntmps68
      go_wp2_with (go_at_call 82; first | (refine HX.out.mono ?_; rintro e w1 ⟨rfl, rfl⟩; clear HX) | (refine HY.out.mono ?_; rintro e w1 ⟨rfl, rfl⟩; clear HY))
      refine bodyPost_ret (results_tmp rfl _ _ _) rfl ?_
      exact ⟨by rw [HC.out, HV.out]; rfl, rfl⟩
    · have h3 : ¬ x > y := h2
      have HV := Lib.hid (show cmpI x y = 0 by rw [cmpI, if_neg h1, if_neg h2])
      go_enter Tryd.func68, Tryd.ntmps68
      go_wp2_with (go_at_call 82; first | (refine HX.out.mono ?_; rintro e w1 ⟨rfl, rfl⟩; clear HX) | (refine HY.out.mono ?_; rintro e w1 ⟨rfl, rfl⟩; clear HY))
      refine bodyPost_ret (results_tmp rfl _ _ _) rfl ?_
      exact ⟨by rw [HC.out, HV.out]; rfl, rfl⟩
/-- what orders numbers -/
def CbO (g : Nat) : Prop := ∀ (a b : Int) (w : World), 0 ≤ a → a ≤ 2 → 0 ≤ b → b ≤ 2 → Calls Tryd.prog g #[.int .i64 a, .int .i64 b] w fun e w' => e = .returned (.int .i64 (a - b)) ∧ w' = w
theorem eltN_cmp {a b : Int} (h : a < 0 ∨ b < 0) : eltN a b = cmpI (min a 0) (min b 0) := by unfold eltN cmpI; rw [if_pos h]
theorem eltN_sub {a b : Int} (h : ¬ (a < 0 ∨ b < 0)) : eltN a b = a - b := by unfold eltN; rw [if_neg h]
theorem sortG_any (g b3 : Nat) (eg : ∀ args w, (callFunc g args).run Tryd.prog w = .ok (.enter g args) w) (hg : CbO g) (a b : Int) (w : World) (hb : w.heap[b3]? = some (.cells #[.func (.func g) #[] #[]] 54 (0, 0))) (ha : -1 ≤ a ∧ a ≤ 2) (hb' : -1 ≤ b ∧ b ≤ 2) :
    Calls Tryd.prog 67 #[.int .i64 a, .int .i64 b, .pointer (some ⟨b3, 0, none⟩)] w fun e w' => e = .returned (.int .i64 (eltN a b)) ∧ w' = w := by
  have q0 : w.cell? ⟨b3, 0, none⟩ = some (.func (.func g) #[] #[]) := block_cell hb 0
  have l0 := block_lt hb
  clear hb
  by_cases h1 : a < 0
  · have HC := Lib.hid (compare_any (min a 0) (min b 0) w)
    have HE := Lib.hid (eltN_cmp (b := b) (.inl h1))
    go_enter Tryd.func67, Tryd.ntmps67
    go_wp2_with (go_at_call 68; refine HC.out.mono ?_; rintro e w1 ⟨rfl, rfl⟩)
    refine bodyPost_ret (results_tmp rfl _ _ _) rfl ?_
    exact ⟨by rw [HE.out]; rfl, rfl⟩
  · by_cases h2 : b < 0
    · have HC := Lib.hid (compare_any (min a 0) (min b 0) w)
      have HE := Lib.hid (eltN_cmp (a := a) (.inr h2))
      go_enter Tryd.func67, Tryd.ntmps67
      go_wp2_with (go_at_call 68; refine HC.out.mono ?_; rintro e w1 ⟨rfl, rfl⟩)
      refine bodyPost_ret (results_tmp rfl _ _ _) rfl ?_
      exact ⟨by rw [HE.out]; rfl, rfl⟩
    · have HG := Lib.hid (hg a b w (by omega) ha.2 (by omega) hb'.2)
      have HE := Lib.hid (eltN_sub (a := a) (b := b) (by omega))
      go_enter Tryd.func67, Tryd.ntmps67
      go_wp2_with (go_at_fn g; refine HG.out.mono ?_; rintro e w1 ⟨rfl, rfl⟩)
      refine bodyPost_ret (results_tmp rfl _ _ _) rfl ?_
      exact ⟨by rw [HE.out]; rfl, rfl⟩
theorem cmpL_drop {x y : List Int} {j : Nat} {a b : Int} (h : x[j]? = some a) (k : y[j]? = some b) : cmpL (x.drop j) (y.drop j) = if eltN a b ≠ 0 then eltN a b else cmpL (x.drop (j + 1)) (y.drop (j + 1)) := by
  obtain ⟨hj, he⟩ := List.getElem?_eq_some_iff.1 h
  obtain ⟨kj, ke⟩ := List.getElem?_eq_some_iff.1 k
  rw [List.drop_eq_getElem_cons hj, List.drop_eq_getElem_cons kj, cmpL, he, ke]
theorem egSG (args : Array Value) (w : World) : (callFunc 67 args).run Tryd.prog w = .ok (.enter 67 args) w := enter_fn Tryd.func67 (by kernel_rfl) rfl args w
theorem egSF (args : Array Value) (w : World) : (callFunc 65 args).run Tryd.prog w = .ok (.enter 65 args) w := enter_fn Tryd.func65 (by kernel_rfl) rfl args w
set_option maxRecDepth 100000 in
theorem cmpFunc_any (g b3 : Nat) (eg : ∀ args w, (callFunc g args).run Tryd.prog w = .ok (.enter g args) w) (hg : CbO g) (xv yv : Value) (x y : List Int) (w : World) (hb : w.heap[b3]? = some (.cells #[.func (.func g) #[] #[]] 54 (0, 0))) (hx : RdI w xv x) (hy : RdI w yv y) (hxt : ∀ n ∈ x, -1 ≤ n ∧ n ≤ 2) (hyt : ∀ n ∈ y, -1 ≤ n ∧ n ≤ 2) (hl : x.length = y.length) (hm : x.length ≤ 1000000) :
    Calls Tryd.prog 66 #[xv, yv, .func (.func 67) #[] #[.pointer (some ⟨b3, 0, none⟩)]] w fun e w' => e = .returned (.int .i64 (cmpL x y)) ∧ w' = w := by
  have HG := Lib.hid (fun a b (ha : -1 ≤ a ∧ a ≤ 2) (hb' : -1 ≤ b ∧ b ≤ 2) => sortG_any g b3 eg hg a b w hb ha hb')
  obtain ⟨A, c, rfl⟩ := rdI_form hx
  obtain ⟨B, d, rfl⟩ := rdI_form hy
  have HX := Lib.hid hx
  have HY := Lib.hid hy
  have HXT := Lib.hid hxt
  have HYT := Lib.hid hyt
  have HL := Lib.hid hl
  have hm2 : y.length ≤ 1000000 := by omega
  have egg := egSG
  clear hx hy hb hxt hyt hl
  go_enter Tryd.func66, Tryd.ntmps66
  go_wp2
  go_loopw [13] (fun z wr => ∃ j : Nat, j ≤ x.length ∧ z = .int .i64 j ∧ cmpL (x.drop j) (y.drop j) = cmpL x y ∧ wr = w) (fun z _ => x.length - (intOf z).toNat)
  case atStart => exact ⟨0, Nat.zero_le _, rfl, rfl, rfl⟩
  case round =>
    obtain ⟨j, hj, rfl, hpre, hw⟩ := hrel
    subst hw
    rename World => w
    have HP := Lib.hid hpre
    clear hpre
    by_cases hlt : j < x.length
    · have hji : (j : Int) < (x.length : Int) := by omega
      have hji2 : (j : Int) < (y.length : Int) := by have := HL.out; omega
      have hge : ¬ (j : Int) ≥ (y.length : Int) := by omega
      have hj0 : (0 : Int) ≤ (j : Int) := by omega
      obtain ⟨a, ha⟩ : ∃ q, x[j]? = some q := ⟨_, List.getElem?_eq_getElem hlt⟩
      obtain ⟨b, hb⟩ : ∃ q, y[j]? = some q := ⟨_, List.getElem?_eq_getElem (by have := HL.out; omega)⟩
      obtain ⟨b1, o1, rfl, hb1, q0⟩ := rdI_at HX.out ha
      obtain ⟨b2, o2, rfl, hb2, q1⟩ := rdI_at HY.out hb
      have HC := Lib.hid (HG.out a b (HXT.out a (List.mem_of_getElem? ha)) (HYT.out b (List.mem_of_getElem? hb)))
      have HD := Lib.hid (cmpL_drop ha hb)
      obtain ⟨m, hm'⟩ : ∃ m, m = eltN a b := ⟨_, rfl⟩
      rw [← hm'] at HC HD
      clear ha hb hm'
      by_cases hm0 : m = 0
      · have hne : (m != 0) = false := by simp [hm0]
        have HM := Lib.hid hm0
        clear hm0
        go_wp2_with (go_at_fn 67; refine HC.out.mono ?_; rintro e w1 ⟨rfl, hw1⟩; subst hw1)
        go_roundw
        case rel => exact ⟨j + 1, by omega, by go_num, by rw [← HP.out, HD.out, if_neg (fun h => h HM.out)], trivial⟩
        case measure => simp [intOf]; omega
      · have hne : (m != 0) = true := by simp [hm0]
        have HM := Lib.hid hm0
        clear hm0
        go_wp2_with (go_at_fn 67; refine HC.out.mono ?_; rintro e w1 ⟨rfl, hw1⟩; subst hw1)
        refine bodyPost_ret (results_tmp rfl _ _ _) rfl ?_
        exact ⟨by rw [← HP.out, HD.out, if_pos HM.out]; rfl, rfl⟩
    · obtain rfl : j = x.length := by omega
      have hnl : ¬ (x.length : Int) < (y.length : Int) := by have := HL.out; omega
      have HZ := Lib.hid (show cmpL x y = 0 by rw [← HP.out, List.drop_length, HL.out, List.drop_length]; rfl)
      go_wp2
      refine bodyPost_ret (results_tmp rfl _ _ _) rfl ?_
      exact ⟨by rw [HZ.out]; rfl, rfl⟩
theorem sortF_any (g b3 : Nat) (eg : ∀ args w, (callFunc g args).run Tryd.prog w = .ok (.enter g args) w) (hg : CbO g) (xv yv : Value) (x y : List Int) (w : World) (hb : w.heap[b3]? = some (.cells #[.func (.func g) #[] #[]] 54 (0, 0))) (hx : RdI w xv x) (hy : RdI w yv y) (hxt : ∀ n ∈ x, -1 ≤ n ∧ n ≤ 2) (hyt : ∀ n ∈ y, -1 ≤ n ∧ n ≤ 2) (hl : x.length = y.length) (hm : x.length ≤ 1000000) :
    Calls Tryd.prog 65 #[xv, yv, .pointer (some ⟨b3, 0, none⟩)] w fun e w' => e = .returned (.int .i64 (cmpL x y)) ∧ w' = w := by
  have HC := Lib.hid (cmpFunc_any g b3 eg hg xv yv x y w hb hx hy hxt hyt hl hm)
  obtain ⟨A, c, rfl⟩ := rdI_form hx
  obtain ⟨B, d, rfl⟩ := rdI_form hy
  clear hb hx hy hxt hyt hl hm
  go_enter Tryd.func65, Tryd.ntmps65
  go_wp2_with (go_at_call 66; refine HC.out.mono ?_; rintro e w1 ⟨rfl, hw1⟩; subst hw1)
  refine bodyPost_ret (results_tmp rfl _ _ _) rfl ?_
  exact ⟨rfl, rfl⟩
def Tryd.laysF20_ren : Go.Shelf.Ren := ⟨fun | 20 => 89 | n => n, fun | 0 => 0 | 3 => 3 | 4 => 4 | 22 => 29 | 24 => 41 | 25 => 85 | n => n, fun | n => n⟩
theorem Tryd.laysF20 : Go.Proofs.SlLaysF.n20 Tryd.prog Tryd.laysF20_ren := {
  mixed := by kernel_rfl
  f20 := ⟨Tryd.f89.name, by decide, Tryd.func89.trans (congrArg some (by kernel_rfl))⟩
  t0 := Tryd.underlying0
  a0 := Tryd.isAgg0
  z0 := Tryd.sizeOf0
  v0 := Tryd.zeroValue0
  t3 := Tryd.underlying3
  a3 := Tryd.isAgg3
  z3 := Tryd.sizeOf3
  v3 := Tryd.zeroValue3
  t4 := Tryd.underlying4
  a4 := Tryd.isAgg4
  z4 := Tryd.sizeOf4
  v4 := Tryd.zeroValue4
  t22 := Tryd.underlying29
  a22 := Tryd.isAgg29
  z22 := Tryd.sizeOf29
  v22 := Tryd.zeroValue29
  a24 := Tryd.isAgg41
  z24 := Tryd.sizeOf41
  t25 := Tryd.underlying85
  a25 := Tryd.isAgg85
  z25 := Tryd.sizeOf85
  v25 := Tryd.zeroValue85 }
/-- rows as they lie -/
abbrev RT (H : Nat) (w : World) (n : Nat) := { s : Sl × List Int // rowF elI H s.2 (slV s.1) w ∧ (∀ k ∈ s.2, -1 ≤ k ∧ k ≤ 2) ∧ s.2.length = n }
theorem rt_list {P : Sl × List Int → Prop} : ∀ (sl : List Sl) (R : List (List Int)), sl.length = R.length → (∀ (i : Nat) (s : Sl) (x : List Int), sl[i]? = some s → R[i]? = some x → P (s, x)) → ∃ L : List { p : Sl × List Int // P p }, L.map (·.1.1) = sl ∧ L.map (·.1.2) = R
  | [], [], _, _ => ⟨[], rfl, rfl⟩
  | s :: sl, x :: R, hl, h => by
    obtain ⟨L, h1, h2⟩ := rt_list sl R (by simpa using hl) (fun i s x hs hx => h (i + 1) s x (by simpa using hs) (by simpa using hx))
    exact ⟨⟨(s, x), h 0 s x rfl rfl⟩ :: L, by simp [h1], by simp [h2]⟩
  | [], x :: R, hl, _ => by simp at hl
  | s :: sl, [], hl, _ => by simp at hl
theorem upd_sortWorld {α : Type} [Inhabited α] {enc : α → Value} {w : World} {g n : Nat} {d : Array α} {os : Array Obj} : Upd (fun b => b = g) w (sortWorld enc w g 0 n d os) := by
  refine ⟨rfl, rfl, rfl, by simp [sortWorld, grow, putRow, mapBlock, Sort.ahead], fun k hk hn => ?_⟩
  have h2 : k ≠ g := hn
  unfold sortWorld
  rw [heap_grow_old _ _ (by simpa using hk)]
  simp only [putRow, mapBlock, Sort.ahead, Array.getElem?_modify]
  rw [if_neg (fun e => h2 e.symm)]
theorem heap_sortWorld {α : Type} [Inhabited α] {enc : α → Value} {w : World} {g n : Nat} {d : Array α} {os : Array Obj} {cur : Array Value} {e : TypeId} {fr : Nat × Nat} (hb : w.heap[g]? = some (.cells cur e fr)) : (sortWorld enc w g 0 n d os).heap[g]? = some (.cells (putCells enc 0 d cur) e fr) := by
  have hg : g < w.heap.size := (Array.getElem?_eq_some_iff.1 hb).1
  unfold sortWorld
  rw [heap_grow_old _ _ (by simpa using hg)]
  simp [putRow, mapBlock, Sort.ahead, Array.getElem?_modify, hb, onCells]
theorem take_putCells_any {α : Type} [Inhabited α] (enc : α → Value) (cur : Array Value) (ts : List α) (h : ts.length ≤ cur.size) : (putCells enc 0 ts.toArray cur).toList.take ts.length = ts.map enc := by
  apply List.ext_getElem?
  intro j
  by_cases hj : j < ts.length
  · rw [List.getElem?_take_of_lt hj, Array.getElem?_toList]
    simp [putCells, hj, show j < cur.size by omega]
  · rw [List.getElem?_take_eq_none (by omega), List.getElem?_eq_none (by simp; omega)]
theorem flatW' (L : List Sl) : flatE elW L = L.map slV := by
  induction L with
  | nil => rfl
  | cons x L ih => rw [List.map_cons, ← ih]; rfl
theorem ins_none (A : Option Addr) (c g : Nat) (lb : Array Value) (w : World) : Calls Tryd.prog 89 #[.slice A 0 c, .int .i64 0, .int .i64 0, .func (.func g) #[] lb] w fun e w' => e = .returned (.tuple #[]) ∧ w' = w := by
  go_enter Tryd.func89, Tryd.ntmps89
  go_wp2
  go_loopw [8] (fun z wr => z = .int .i64 1 ∧ wr = w) (fun _ _ => 0)
  case atStart => exact ⟨rfl, rfl⟩
  case round =>
    obtain ⟨rfl, hw⟩ := hrel
    subst hw
    go_wp2
    go_end0
    exact ⟨rfl, rfl⟩
set_option maxRecDepth 100000 in
theorem stable_any (g : Nat) (lb : Array Value) (dv : Value) (n : Nat) (Q : World → Prop) (w : World) (hn : n < 20) (hA : ∃ A c, dv = .slice A n c) (hC : Calls Tryd.prog 89 #[dv, .int .i64 0, .int .i64 (n : Int), .func (.func g) #[] lb] w fun e w' => e = .returned (.tuple #[]) ∧ Q w') :
    Calls Tryd.prog 81 #[dv, .int .i64 (n : Int), .func (.func g) #[] lb] w fun e w' => e = .returned (.tuple #[]) ∧ Q w' := by
  obtain ⟨A, c, rfl⟩ := hA
  have HC := Lib.hid hC
  have h1 : ¬ (20 : Int) ≤ (n : Int) := by omega
  have h2 : ¬ (20 : Int) < (n : Int) := by omega
  clear hC hn
  go_enter Tryd.func81, Tryd.ntmps81
  go_wp2
  go_loopw [7, 8] (fun y z wr => y = .int .i64 0 ∧ z = .int .i64 20 ∧ wr = w) (fun _ _ _ => 0)
  case atStart => exact ⟨rfl, rfl, rfl⟩
  case round =>
    obtain ⟨rfl, rfl, hw⟩ := hrel
    subst hw
    go_wp2_with (go_at_call 89; refine HC.out.mono ?_; rintro e w1 ⟨rfl, hQ⟩; have HQ := Lib.hid hQ; clear hQ)
    rename World => w1
    go_loopw [6] (fun z wr => z = .int .i64 20 ∧ wr = w1) (fun _ _ => 0)
    case atStart => exact ⟨rfl, rfl⟩
    case round =>
      obtain ⟨rfl, hw⟩ := hrel
      subst hw
      go_wp2
      go_end0
      exact ⟨rfl, HQ.out⟩
theorem sortStable_any (g : Nat) (lb : Array Value) (dv : Value) (n : Nat) (Q : World → Prop) (w : World) (hn : n < 20) (hA : ∃ A c, dv = .slice A n c) (hC : Calls Tryd.prog 89 #[dv, .int .i64 0, .int .i64 (n : Int), .func (.func g) #[] lb] w fun e w' => e = .returned (.tuple #[]) ∧ Q w') :
    Calls Tryd.prog 64 #[dv, .func (.func g) #[] lb] w fun e w' => e = .returned (.tuple #[]) ∧ Q w' := by
  have HC := Lib.hid (stable_any g lb dv n Q w hn hA hC)
  obtain ⟨A, c, rfl⟩ := hA
  clear hC hn
  go_enter Tryd.func64, Tryd.ntmps64
  go_wp2_with (go_at_call 81; refine HC.out.mono ?_; rintro e w1 ⟨rfl, hQ⟩; have HQ := Lib.hid hQ; clear hQ)
  go_end0
  exact ⟨rfl, HQ.out⟩
theorem sortRows_any (g b3 H : Nat) (eg : ∀ args w, (callFunc g args).run Tryd.prog w = .ok (.enter g args) w) (hg : CbO g) (vv rv : Value) (V : List ByteArray) (R : List (List Int)) (w : World) (hb3 : w.heap[b3]? = some (.cells #[.func (.func g) #[] #[]] 54 (0, 0))) (how : Own H w vv rv V R) (hn : R.length < 20) (hR : ∀ x ∈ R, TinyR x) (hl : ∀ x ∈ R, x.length = V.length) (hV : V.length ≤ 1000000) :
    Calls Tryd.prog 64 #[rv, .func (.func 65) #[] #[.pointer (some ⟨b3, 0, none⟩)]] w fun e w' => e = .returned (.tuple #[]) ∧ Own H w' vv rv V (sortL ltR R) ∧ Upd (fun b => rv.ownBlock = some b) w w' := by
  obtain ⟨h1, sl, h2, h3, h4⟩ := how
  have hself : Own H w vv rv V R := ⟨h1, sl, h2, h3, h4⟩
  by_cases hsl : sl = []
  · have hR0 : R = [] := List.eq_nil_of_length_eq_zero (by rw [← h3, hsl]; rfl)
    obtain ⟨A, c, hv⟩ := rowE_form h2.1
    rw [hsl] at hv
    subst hv
    refine sortStable_any _ _ _ 0 _ w (by omega) ⟨_, _, rfl⟩ ((ins_none A c 65 #[.pointer (some ⟨b3, 0, none⟩)] w).mono ?_)
    rintro e w' ⟨rfl, rfl⟩
    exact ⟨rfl, by rw [hR0] at hself ⊢; exact hself, upd_refl⟩
  · rcases rowE_cases h2.1 with ⟨_, e⟩ | ⟨blk, cap, cur, rfl, hc, k1, k2, k3, k4⟩
    · exact absurd e hsl
    · obtain ⟨L, e1, e2⟩ := rt_list (P := fun s => rowF elI H s.2 (slV s.1) w ∧ (∀ k ∈ s.2, -1 ≤ k ∧ k ≤ 2) ∧ s.2.length = V.length) sl R h3 (fun i s x hs hx => ⟨h4 i s x hs hx, hR x (List.mem_of_getElem? hx), hl x (List.mem_of_getElem? hx)⟩)
      have hLl : L.length = sl.length := by rw [← e1, List.length_map]
      have hL0 : L ≠ [] := fun e => hsl (by rw [← e1, e]; rfl)
      letI : Inhabited (RT H w V.length) := ⟨L.head hL0⟩
      obtain ⟨enc, henc⟩ : ∃ enc : RT H w V.length → Value, enc = fun a => slV a.1.1 := ⟨_, rfl⟩
      have hone : OneCell enc := fun x => by rw [henc]; rfl
      have hbk : b3 ≠ blk := fun e => by
        rw [e, hc] at hb3
        simp only [Option.some.injEq, Obj.cells.injEq] at hb3
        exact absurd hb3.2.1 (by decide)
      have hoff : ∀ {w' : World}, Upd (fun b => b = blk) w w' → ∀ a : RT H w V.length, rowF elI H a.1.2 (slV a.1.1) w' := fun hU a => ⟨rowE_off_upd a.2.1.1 hU (fun b hb cur' t hbt => by
        subst hb
        rw [hc] at hbt
        simp only [Option.some.injEq, Obj.cells.injEq] at hbt
        rw [← hbt.2.1]
        decide), a.2.1.2⟩
      have hcmp : CmpLays1 Tryd.prog 65 #[.pointer (some ⟨b3, 0, none⟩)] enc (fun a b => cmpL a.1.2 b.1.2) blk 0 L.toArray.size w := fun m os dk _ x y => by
        have hU := upd_sortWorld (enc := enc) (w := w) (g := blk) (n := m) (d := dk) (os := os)
        have hb := (hU.block b3 (block_lt hb3) hbk).trans hb3
        have h := sortF_any g b3 eg hg (slV x.1.1) (slV y.1.1) x.1.2 y.1.2 _ hb (rdI_row (hoff hU x).1) (rdI_row (hoff hU y).1) x.2.2.1 y.2.2.1 (by rw [x.2.2.2, y.2.2.2]) (by rw [x.2.2.2]; exact hV)
        rw [henc]
        rw [henc] at h
        refine Calls.mono h ?_
        rintro e w' ⟨rfl, rfl⟩
        exact ⟨rfl, 0, #[], by rw [grow_empty]; rfl⟩
      have hholds : Holds enc w blk 0 L.toArray := fun j hj => by
        have hj' : j < L.length := by simpa using hj
        have hs : sl[j]? = some (L[j]).1.1 := by rw [← e1, List.getElem?_map, List.getElem?_eq_getElem hj']; rfl
        have hcell := rowW_cell h2.1 hs
        rw [Nat.zero_add]
        refine ⟨?_, block_frozen hc j⟩
        rw [hcell, henc]
        simp [getElem!_pos, hj']
      have hrun := Any.insertionSortCmpFunc_s Tryd.laysF20 enc (fun a b => cmpL a.1.2 b.1.2) 65 #[.pointer (some ⟨b3, 0, none⟩)] blk 0 cap 0 L.toArray.size L.toArray L.toArray w w egSF hcmp ⟨hone, hholds, block_lt hc⟩ rfl (SW.start hholds) (Nat.zero_le _) (Nat.le_refl _) (by simp; omega)
      have hsz : L.toArray.size = sl.length := by simpa using hLl
      rw [hsz] at hrun
      refine sortStable_any _ _ _ sl.length _ w (by rw [h3]; exact hn) ⟨_, _, rfl⟩ (hrun.mono ?_)
      rintro e w' ⟨rfl, m, os, rfl⟩
      have hU := upd_sortWorld (enc := enc) (w := w) (g := blk) (n := m) (d := Sort.insertionSort (ltOf fun a b => cmpL a.1.2 b.1.2) L.toArray 0 sl.length) (os := os)
      have hins : (Sort.insertionSort (ltOf fun (a b : RT H w V.length) => cmpL a.1.2 b.1.2) L.toArray 0 sl.length).toList = sortL (ltOf fun a b => cmpL a.1.2 b.1.2) L := by
        rw [← hLl]; exact insertion_list _ L
      obtain ⟨D, hD⟩ : ∃ D, D = Sort.insertionSort (ltOf fun (a b : RT H w V.length) => cmpL a.1.2 b.1.2) L.toArray 0 sl.length := ⟨_, rfl⟩
      rw [← hD] at hU hins ⊢
      obtain ⟨Ls, hLs⟩ : ∃ Ls, Ls = sortL (ltOf fun (a b : RT H w V.length) => cmpL a.1.2 b.1.2) L := ⟨_, rfl⟩
      rw [← hLs] at hins
      have hDL : D = Ls.toArray := by rw [← hins]
      subst hDL
      have hLsl : Ls.length = sl.length := by rw [hLs, sortL_len, hLl]
      have hheap := heap_sortWorld (enc := enc) (w := w) (g := blk) (n := m) (d := Ls.toArray) (os := os) hc
      have hcz : cur.size = cap := by rw [k3]; show cap * 1 = cap; omega
      have htake := take_putCells_any enc cur Ls (by rw [hLsl, hcz]; exact k1)
      have hmap : Ls.map (·.1.2) = sortL ltR R := by
        rw [hLs, ← e2]
        exact (sortL_map (lt := ltOf fun (a b : RT H w V.length) => cmpL a.1.2 b.1.2) (lt' := ltR) (·.1.2) (fun x _ y _ => rfl)).symm
      refine ⟨rfl, ⟨⟨rowE_off_upd h1.1 hU (fun b hb cur' t hbt => ?_), h1.2⟩, Ls.map (·.1.1), ⟨?_, fun q hq => h2.2 q hq⟩, by rw [List.length_map, ← hmap, List.length_map], fun i s x hs hx => ?_⟩, upd_mono hU (fun b _ e => by rw [e]; rfl)⟩
      · subst hb
        rw [hc] at hbt
        simp only [Option.some.injEq, Obj.cells.injEq] at hbt
        rw [← hbt.2.1]
        decide
      · refine ⟨by rw [flatE_length], .inr ⟨blk, cap, _, by rw [List.length_map, hLsl], Nat.zero_le _, hheap, by rw [List.length_map, hLsl]; exact k1, k2, ?_, ?_⟩⟩
        · simp [putCells, k3]
        · rw [flatW', List.map_map, List.length_map]
          show (putCells enc 0 Ls.toArray cur).toList.take (Ls.length * 1) = _
          rw [Nat.mul_one, htake, henc]
          rfl
      · rw [← hmap, List.getElem?_map] at hx
        rw [List.getElem?_map] at hs
        cases ha : Ls[i]? with
        | none => rw [ha] at hs; cases hs
        | some a =>
          rw [ha] at hs hx
          simp only [Option.map_some, Option.some.injEq] at hs hx
          rw [← hs, ← hx]
          exact hoff hU a
set_option maxRecDepth 100000 in
theorem sortT_any (g : Nat) (eg : ∀ args w, (callFunc g args).run Tryd.prog w = .ok (.enter g args) w) (hg : CbO g) (avv arv : Value) (U : List ByteArray) (R : List (List Int)) (w : World) (ha : TabV w (.agg #[avv, arv]) U R) (hu : U.length ≤ 1000) (hr : R.length < 20) (hR : ∀ y ∈ R, TinyR y) (hl : ∀ y ∈ R, y.length = U.length) :
    Calls Tryd.prog 36 #[.agg #[avv, arv], .func (.func g) #[] #[]] w fun e w' => ∃ vv rv, e = .returned (.agg #[vv, rv]) ∧ Own w.heap.size w' vv rv U (sortL ltR R) ∧ Ext w w' := by
  obtain ⟨a1, a2⟩ := tabV_parts ha
  obtain ⟨A1, c1, rfl⟩ := rdS_form a1
  obtain ⟨A2, c2, rfl⟩ := rdW_form a2
  have HTR := Lib.hid hR
  have HL := Lib.hid hl
  have HG := Lib.hid hg
  have HEG := Lib.hid eg
  obtain ⟨h0, h1, h2⟩ := heap_three w (.cells #[.slice A1 U.length c1, .slice A2 R.length c2] 31) (.cells #[.func (.func g) #[] #[]] 54) (.cells #[.slice none 0 0, .slice none 0 0] 31)
  obtain ⟨W, hW⟩ : ∃ W, W = ((w.alloc (.cells #[.slice A1 U.length c1, .slice A2 R.length c2] 31)).alloc (.cells #[.func (.func g) #[] #[]] 54)).alloc (.cells #[.slice none 0 0, .slice none 0 0] 31) := ⟨_, rfl⟩
  obtain ⟨b0, hb0⟩ : ∃ b, b = w.heap.size := ⟨_, rfl⟩
  obtain ⟨b3, hb3⟩ : ∃ b, b = w.heap.size + 1 := ⟨_, rfl⟩
  obtain ⟨b2, hb2⟩ : ∃ b, b = w.heap.size + 1 + 1 := ⟨_, rfl⟩
  have hE0 : Ext w W := by rw [hW]; exact ext_alloc (ext_alloc (ext_alloc (ext_refl _) _) _) _
  have HE0 := Lib.hid hE0
  rw [← hW, ← hb0] at h0
  rw [← hW, ← hb3] at h1
  rw [← hW, show w.heap.size + 2 = b2 by rw [hb2]] at h2
  have H0 := Lib.hid h0
  have H1 := Lib.hid h1
  have H2 := Lib.hid h2
  have HWB := Lib.hid (show w.heap.size ≤ b2 from by omega)
  have CF := Lib.hid (filter_all _ _ U R W (tabV_ext ha hE0) (by omega) (by omega) (fun x hx => by rw [hl x hx]; omega))
  have q0 : W.cell? ⟨b0, 0, none⟩ = some (.slice A1 U.length c1) := block_cell h0 0
  have q1 : W.cell? ⟨b0, 1, none⟩ = some (.slice A2 R.length c2) := block_cell h0 1
  have l0 := block_lt h0
  clear ha a1 a2 hR hl hg eg h0 h1 h2 hE0
  go_enter Tryd.func36, Tryd.ntmps36
  go_wp2_with fail
  rw [← hW, ← hb2, ← hb3, ← hb0]
  clear hW hb0 hb2 hb3 q0 q1 l0
  refine CF.out.mono ?_
  rintro e w1 ⟨v1, r1, rfl, how, hE1⟩
  obtain ⟨A3, c3, rfl⟩ := rdS_form (rdS_row how.1.1)
  obtain ⟨A4, c4, rfl⟩ := rdW_form (own_rdW how)
  have HOW := Lib.hid how
  have HE1 := Lib.hid hE1
  clear how hE1 CF
  obtain ⟨p, hp⟩ : ∃ p, p = w1.heap.size := ⟨_, rfl⟩
  obtain ⟨W1, hW1⟩ : ∃ W1, W1 = w1.alloc (.cells #[.slice A3 U.length c3, .slice A4 R.length c4] 31) := ⟨_, rfl⟩
  have hE2 : Ext w1 W1 := by rw [hW1]; exact ext_alloc (ext_refl _) _
  have hbp : W1.heap[p]? = some (.cells #[.slice A3 U.length c3, .slice A4 R.length c4] 31 (0, 0)) := by rw [hW1, hp]; exact heap_alloc_new _ _
  have HP := Lib.hid hbp
  have HE2 := Lib.hid hE2
  have hE02 := ext_trans HE1.out hE2
  have HB3 := Lib.hid ((ext_block hE02 (block_lt H1.out)).trans H1.out)
  have HB2 := Lib.hid ((ext_block hE02 (block_lt H2.out)).trans H2.out)
  have HOW2 := Lib.hid (own_ext HOW.out hE2)
  have HPS := Lib.hid (show W.heap.size ≤ p by rw [hp]; exact ext_size HE1.out)
  clear hE2 hE02 hbp
  go_wp2_with fail
  try rw [← hW1]
  try rw [← hp]
  clear hW1 hp
  refine (sortRows_any g b3 W.heap.size HEG.out HG.out _ _ U R W1 HB3.out HOW2.out hr HTR.out HL.out (by omega)).mono ?_
  rintro e w7 ⟨rfl, how, hU7⟩
  have hoff : ∀ b v t, W1.heap[b]? = some (.cells v t (0, 0)) → t ≠ 41 → ¬ (Value.slice A4 R.length c4).ownBlock = some b := fun b v t hb ht e => by
    obtain ⟨-, sl, h2, h3, -⟩ := HOW2.out
    obtain ⟨_, cur', hc'⟩ := rowE_block h2.1 e
    rw [hb] at hc'
    simp only [Option.some.injEq, Obj.cells.injEq] at hc'
    exact ht hc'.2.1
  have hp7 := (hU7.block p (block_lt HP.out) (hoff p _ _ HP.out (by decide))).trans HP.out
  have hb27 := (hU7.block b2 (block_lt HB2.out) (hoff b2 _ _ HB2.out (by decide))).trans HB2.out
  have q0 : w7.cell? ⟨p, 0, none⟩ = some (.slice A3 U.length c3) := block_cell hp7 0
  have q1 : w7.cell? ⟨p, 1, none⟩ = some (.slice A4 R.length c4) := block_cell hp7 1
  have lp := block_lt hp7
  have r0 : w7.cell? ⟨b2, 0, none⟩ = some (.slice none 0 0) := block_cell hb27 0
  have r1 : w7.cell? ⟨b2, 1, none⟩ = some (.slice none 0 0) := block_cell hb27 1
  have s0 : w7.frozen? ⟨b2, 0, none⟩ = false := block_frozen hb27 0
  have s1 : w7.frozen? ⟨b2, 1, none⟩ = false := block_frozen hb27 1
  have l2 := block_lt hb27
  have HO7 := Lib.hid how
  have HB27 := Lib.hid hb27
  have HBW := Lib.hid (show b2 < W.heap.size from block_lt H2.out)
  have HE7 := Lib.hid (show Ext w w7 from ext_upd (ext_trans HE0.out (ext_trans HE1.out HE2.out)) hU7 (fun b e => by
    obtain ⟨-, sl, h2, h3, -⟩ := HOW2.out
    have h4 := h2.2 b e
    exact Nat.le_trans (ext_size HE0.out) h4))
  clear how hb27 hU7 hoff hp7
  go_wp2
  obtain ⟨wf, hwf⟩ : ∃ wf, wf = (w7.setCell ⟨b2, 0, none⟩ (.slice A3 U.length c3)).setCell ⟨b2, 1, none⟩ (.slice A4 R.length c4) := ⟨_, rfl⟩
  obtain ⟨t0, t1, ho, he⟩ := fin_tab (H := W.heap.size) (w := w) hwf HO7.out HB27.out HBW.out HWB.out HE7.out
  rw [← hwf]
  refine bodyPost_ret (v := .agg #[.slice A3 U.length c3, .slice A4 R.length c4]) (by simp [results, Tryd.results36, go_sem, t0, t1]) rfl ?_
  exact ⟨_, _, rfl, ho, he⟩
end Go.Proofs.YtniggdaakiofeaaDoor
