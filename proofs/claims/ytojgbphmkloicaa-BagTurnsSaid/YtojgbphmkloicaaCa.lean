/- slices.Compare at keys, what Content sorts by. -/
import Derived.Test.YtojgbphmkloicaaFd
import Derived.Test.YtojgbphmkloicaaBs
import Derived.Test.YtojgbphmkloicaaBy
import Derived.Shelf.SlSortCmp.InsertionK
namespace Go.Proofs.Ytojgbphmkloicaa
open Go Go.RowKit Go.Sort
set_option maxHeartbeats 4000000

instance : Inhabited Key := ⟨⟨0, 0, 0⟩⟩
theorem flatK_list {α : Type} [Inhabited α] (E : El α) (L : List α) : flatK E.enc E.size L.toArray = (flatE E L).toArray := by
  refine ext_get! (by simp [flatE_length]) fun t ht => ?_
  have ht' : t < L.toArray.size * E.size := by simpa using ht
  have hs := E.hs
  rw [get_flatK _ _ _ t ht']
  have hi : t / E.size < L.length := Nat.div_lt_of_lt_mul (by rw [Nat.mul_comm]; simpa using ht')
  have hj : t % E.size < E.size := Nat.mod_lt _ hs
  have hx : L[t / E.size]? = some L[t / E.size] := List.getElem?_eq_getElem hi
  have h1 := flatE_at E L (t / E.size) _ hx (t % E.size) hj
  rw [Nat.div_add_mod'] at h1
  have e1 : L.toArray[t / E.size]! = L[t / E.size] := by simp [hi]
  rw [e1]
  have hjl : t % E.size < (E.enc L[t / E.size]).length := by rw [E.hl]; exact hj
  rw [List.getElem?_eq_getElem hjl] at h1
  rw [getElem!_pos (E.enc L[t / E.size]) (t % E.size) hjl]
  have h2 := (List.getElem?_eq_some_iff.1 h1)
  obtain ⟨h3, h4⟩ := h2
  rw [getElem!_pos (flatE E L).toArray t (by simpa using h3)]
  simp [h4]
theorem holdsK_row {α : Type} [Inhabited α] {E : El α} {w : World} {g n c : Nat} {L : List α} (h : rowE E w (.slice (some ⟨g, 0, none⟩) n c) L) : HoldsK E.enc E.size w g 0 L.toArray := by
  rcases rowE_cases h with ⟨h1, _⟩ | ⟨g', cap, cur, h1, hg, _, _, h2, h3⟩
  · cases h1
  · simp only [Value.slice.injEq, Option.some.injEq, Addr.mk.injEq, and_true] at h1
    obtain ⟨rfl, -, -⟩ := h1
    unfold HoldsK
    rw [flatK_list]
    intro j hj
    have hj' : j < (flatE E L).length := by simpa using hj
    rw [Nat.zero_add]
    refine ⟨?_, block_frozen hg j⟩
    rw [block_cell hg j, getElem!_pos (flatE E L).toArray j hj]
    have h4 : (cur.toList.take (L.length * E.size))[j]? = some (flatE E L)[j] := by rw [h3]; exact List.getElem?_eq_getElem hj'
    rw [List.getElem?_take] at h4
    split at h4
    · simpa using h4
    · cases h4
theorem row_putK {α : Type} [Inhabited α] {E : El α} {w : World} {g n c : Nat} {L L' : List α} (h : rowE E w (.slice (some ⟨g, 0, none⟩) n c) L) (hl : L'.length = L.length) (m : Nat) (os : Array Obj) :
    rowE E (grow (putRowK E.enc E.size (Sort.ahead w m) g 0 L'.toArray) os) (.slice (some ⟨g, 0, none⟩) n c) L' ∧ Upd (fun b => b = g) w (grow (putRowK E.enc E.size (Sort.ahead w m) g 0 L'.toArray) os) := by
  rcases rowE_cases h with ⟨h1, _⟩ | ⟨g', cap, cur, h1, hg, h4, h5, h2, h3⟩
  · cases h1
  · simp only [Value.slice.injEq, Option.some.injEq, Addr.mk.injEq, and_true] at h1
    obtain ⟨rfl, rfl, rfl⟩ := h1
    unfold putRowK
    rw [flatK_list]
    have hlt : g < w.heap.size := block_lt hg
    have hb : (grow (putRow id (Sort.ahead w m) g 0 (flatE E L').toArray) os).heap[g]? = some (.cells (putCells id 0 (flatE E L').toArray cur) E.ty (0, 0)) := by
      rw [heap_grow_old _ _ (by simpa [putRow, mapBlock, Sort.ahead] using hlt)]
      simp [putRow, mapBlock, Sort.ahead, Array.getElem?_modify, hg, onCells]
    have hfl : (flatE E L').length = L.length * E.size := by rw [flatE_length, hl]
    refine ⟨⟨by rw [flatE_length], .inr ⟨g, c, _, by rw [hl], Nat.zero_le _, hb, by omega, h5, by simp [putCells, h2], ?_⟩⟩, rfl, rfl, rfl, by simp [grow, putRow, mapBlock, Sort.ahead], fun k hk hn => ?_⟩
    · have hle : L.length * E.size ≤ cur.size := by rw [h2]; exact Nat.mul_le_mul_right _ h4
      rw [hl]
      apply List.ext_getElem?
      intro j
      by_cases hj : j < L.length * E.size
      · rw [List.getElem?_take_of_lt hj, Array.getElem?_toList]
        simp [putCells, show j < (flatE E L').length by omega, show j < cur.size by omega]
      · rw [List.getElem?_take_eq_none (by omega), List.getElem?_eq_none (by omega)]
    · have h6 : k ≠ g := hn
      rw [heap_grow_old _ _ (by simpa [putRow, mapBlock, Sort.ahead] using hk)]
      simp only [putRow, mapBlock, Sort.ahead, Array.getElem?_modify]
      rw [if_neg (fun e => h6 e.symm)]
theorem dd_grow {w w' : World} (h : DD.Ext w w') : ∃ q os, w' = grow (w.drewN q) os := by
  obtain ⟨⟨d, os⟩, rfl⟩ := DD.regrown_of_below h
  have hd : w.drawn ≤ d := h.2
  refine ⟨d - w.drawn, os, ?_⟩
  have : redrawn w d = w.drewN (d - w.drawn) := by
    simp only [redrawn, World.drewN]
    congr 1
    omega
  rw [this]


theorem cmpI_zero {a b : Int} : cmpI a b = 0 ↔ a = b := by
  unfold cmpI
  split
  · constructor <;> intro h <;> omega
  · split
    · constructor <;> intro h <;> omega
    · constructor <;> intro h <;> omega
theorem cmpI_neg {a b : Int} : cmpI a b < 0 ↔ a < b := by
  unfold cmpI
  split
  · rename_i h; simp [h]
  · split
    · rename_i h k; simp; omega
    · rename_i h k; simp; omega
def cmpK (x y : Key) : Int := if cmpI x.a y.a = 0 then (if cmpI x.b y.b = 0 then cmpI x.c y.c else cmpI x.b y.b) else cmpI x.a y.a
theorem cmpK_neg {x y : Key} : cmpK x y < 0 ↔ ltK x y := by
  unfold cmpK ltK
  split
  · rename_i h
    rw [cmpI_zero] at h
    split
    · rename_i k
      rw [cmpI_zero] at k
      rw [cmpI_neg]
      omega
    · rename_i k
      rw [cmpI_zero] at k
      rw [cmpI_neg]
      omega
  · rename_i h
    rw [cmpI_zero] at h
    rw [cmpI_neg]
    omega
theorem heap_two (w : World) (o0 o1 : Obj) : ((w.alloc o0).alloc o1).heap[w.heap.size]? = some o0 ∧ ((w.alloc o0).alloc o1).heap[w.heap.size + 1]? = some o1 := by
  have h1 := heap_alloc_new (w.alloc o0) o1
  rw [World.size_alloc] at h1
  exact ⟨(Below.heap_alloc _ _ _ (by simp)).trans (heap_alloc_new w o0), h1⟩
theorem compare3_any (x y : Key) (g1 g2 : Nat) (w : World) (hb1 : w.heap[g1]? = some (.cells #[.int .i64 x.a, .int .i64 x.b, .int .i64 x.c] 36 (0, 0))) (hb2 : w.heap[g2]? = some (.cells #[.int .i64 y.a, .int .i64 y.b, .int .i64 y.c] 36 (0, 0))) :
    Calls Try.prog 20 #[.slice (some ⟨g1, 0, none⟩) 3 3, .slice (some ⟨g2, 0, none⟩) 3 3] w fun e w' => e = .returned (.int .i64 (cmpK x y)) ∧ w' = w := by
  have a0 : w.cell? ⟨g1, 0, none⟩ = some (.int .i64 x.a) := block_cell hb1 0
  have a1 : w.cell? ⟨g1, 1, none⟩ = some (.int .i64 x.b) := block_cell hb1 1
  have a2 : w.cell? ⟨g1, 2, none⟩ = some (.int .i64 x.c) := block_cell hb1 2
  have b0 : w.cell? ⟨g2, 0, none⟩ = some (.int .i64 y.a) := block_cell hb2 0
  have b1 : w.cell? ⟨g2, 1, none⟩ = some (.int .i64 y.b) := block_cell hb2 1
  have b2 : w.cell? ⟨g2, 2, none⟩ = some (.int .i64 y.c) := block_cell hb2 2
  have l1 := block_lt hb1
  have l2 := block_lt hb2
  clear hb1 hb2
  obtain ⟨xa, xb, xc⟩ := x
  obtain ⟨ya, yb, yc⟩ := y
  simp only at a0 a1 a2 b0 b1 b2 ⊢
  obtain ⟨r, hr⟩ : ∃ r, r = cmpK ⟨xa, xb, xc⟩ ⟨ya, yb, yc⟩ := ⟨_, rfl⟩
  rw [← hr]
  unfold cmpK at hr
  simp only at hr
  by_cases h1 : cmpI xa ya = 0
  · rw [if_pos h1] at hr
    have d1 : (cmpI xa ya != 0) = false := by rw [h1]; rfl
    clear h1
    by_cases h2 : cmpI xb yb = 0
    · rw [if_pos h2] at hr
      have d2 : (cmpI xb yb != 0) = false := by rw [h2]; rfl
      clear h2
      by_cases h3 : cmpI xc yc = 0
      · have d3 : (cmpI xc yc != 0) = false := by rw [h3]; rfl
        have HR := Lib.hid (show Ending.returned (.int .i64 0) = .returned (.int .i64 r) by rw [hr, h3])
        clear h3 hr
        go_enter Try.func20, Try.ntmps20
        go_wp2
        go_loopw [11] (fun x wr => ∃ j : Nat, j ≤ 3 ∧ x = .int .i64 (j : Int) ∧ wr = w) (fun x _ => 4 - (intOf x).toNat)
        case atStart => exact ⟨0, by omega, rfl, rfl⟩
        case round =>
          obtain ⟨j, hj, rfl, rfl⟩ := hrel
          obtain rfl | rfl | rfl | rfl : j = 0 ∨ j = 1 ∨ j = 2 ∨ j = 3 := by omega
          · go_wp2_with (go_at_call 25; refine (cmp_any _ _ _).mono ?_; rintro e w' ⟨rfl, rfl⟩)
            go_roundw
            case rel => exact ⟨1, by omega, by go_num, trivial⟩
            case measure => simp [intOf]
          · go_wp2_with (go_at_call 25; refine (cmp_any _ _ _).mono ?_; rintro e w' ⟨rfl, rfl⟩)
            go_roundw
            case rel => exact ⟨2, by omega, by go_num, trivial⟩
            case measure => simp [intOf]
          · go_wp2_with (go_at_call 25; refine (cmp_any _ _ _).mono ?_; rintro e w' ⟨rfl, rfl⟩)
            go_roundw
            case rel => exact ⟨3, by omega, by go_num, trivial⟩
            case measure => simp [intOf]
          · go_wp2
            refine bodyPost_ret (results_tmp rfl _ _ _) rfl ?_
            exact ⟨HR.out, rfl⟩
      · have d3 : (cmpI xc yc != 0) = true := by simpa using h3
        have HR := Lib.hid (show Ending.returned (.int .i64 (cmpI xc yc)) = .returned (.int .i64 r) by rw [hr])
        clear h3 hr
        go_enter Try.func20, Try.ntmps20
        go_wp2
        go_loopw [11] (fun x wr => ∃ j : Nat, j ≤ 2 ∧ x = .int .i64 (j : Int) ∧ wr = w) (fun x _ => 4 - (intOf x).toNat)
        case atStart => exact ⟨0, by omega, rfl, rfl⟩
        case round =>
          obtain ⟨j, hj, rfl, rfl⟩ := hrel
          obtain rfl | rfl | rfl : j = 0 ∨ j = 1 ∨ j = 2 := by omega
          · go_wp2_with (go_at_call 25; refine (cmp_any _ _ _).mono ?_; rintro e w' ⟨rfl, rfl⟩)
            go_roundw
            case rel => exact ⟨1, by omega, by go_num, trivial⟩
            case measure => simp [intOf]
          · go_wp2_with (go_at_call 25; refine (cmp_any _ _ _).mono ?_; rintro e w' ⟨rfl, rfl⟩)
            go_roundw
            case rel => exact ⟨2, by omega, by go_num, trivial⟩
            case measure => simp [intOf]
          · go_wp2_with (go_at_call 25; refine (cmp_any _ _ _).mono ?_; rintro e w' ⟨rfl, rfl⟩)
            refine bodyPost_ret (results_tmp rfl _ _ _) rfl ?_
            exact ⟨HR.out, rfl⟩
    · rw [if_neg h2] at hr
      have d2 : (cmpI xb yb != 0) = true := by simpa using h2
      have HR := Lib.hid (show Ending.returned (.int .i64 (cmpI xb yb)) = .returned (.int .i64 r) by rw [hr])
      clear h2 hr
      go_enter Try.func20, Try.ntmps20
      go_wp2
      go_loopw [11] (fun x wr => ∃ j : Nat, j ≤ 1 ∧ x = .int .i64 (j : Int) ∧ wr = w) (fun x _ => 4 - (intOf x).toNat)
      case atStart => exact ⟨0, by omega, rfl, rfl⟩
      case round =>
        obtain ⟨j, hj, rfl, rfl⟩ := hrel
        obtain rfl | rfl : j = 0 ∨ j = 1 := by omega
        · go_wp2_with (go_at_call 25; refine (cmp_any _ _ _).mono ?_; rintro e w' ⟨rfl, rfl⟩)
          go_roundw
          case rel => exact ⟨1, by omega, by go_num, trivial⟩
          case measure => simp [intOf]
        · go_wp2_with (go_at_call 25; refine (cmp_any _ _ _).mono ?_; rintro e w' ⟨rfl, rfl⟩)
          refine bodyPost_ret (results_tmp rfl _ _ _) rfl ?_
          exact ⟨HR.out, rfl⟩
  · rw [if_neg h1] at hr
    have d1 : (cmpI xa ya != 0) = true := by simpa using h1
    have HR := Lib.hid (show Ending.returned (.int .i64 (cmpI xa ya)) = .returned (.int .i64 r) by rw [hr])
    clear h1 hr
    go_enter Try.func20, Try.ntmps20
    go_wp2
    go_loopw [11] (fun x wr => ∃ j : Nat, j ≤ 0 ∧ x = .int .i64 (j : Int) ∧ wr = w) (fun x _ => 4 - (intOf x).toNat)
    case atStart => exact ⟨0, by omega, rfl, rfl⟩
    case round =>
      obtain ⟨j, hj, rfl, rfl⟩ := hrel
      obtain rfl : j = 0 := by omega
      go_wp2_with (go_at_call 25; refine (cmp_any _ _ _).mono ?_; rintro e w' ⟨rfl, rfl⟩)
      refine bodyPost_ret (results_tmp rfl _ _ _) rfl ?_
      exact ⟨HR.out, rfl⟩
theorem cmpK_any (x y : Key) (w : World) : Calls Try.prog 19 #[k3 x, k3 y] w fun e w' => e = .returned (.int .i64 (cmpK x y)) ∧ DD.Ext w w' := by
  obtain ⟨h1, h2⟩ := heap_two w (.cells #[.int .i64 x.a, .int .i64 x.b, .int .i64 x.c] 36) (.cells #[.int .i64 y.a, .int .i64 y.b, .int .i64 y.c] 36)
  have hE := DD.ext_alloc (DD.ext_alloc (DD.ext_refl w) (.cells #[.int .i64 x.a, .int .i64 x.b, .int .i64 x.c] 36)) (.cells #[.int .i64 y.a, .int .i64 y.b, .int .i64 y.c] 36)
  obtain ⟨w0, hw0⟩ : ∃ w0, w0 = (w.alloc (.cells #[.int .i64 x.a, .int .i64 x.b, .int .i64 x.c] 36)).alloc (.cells #[.int .i64 y.a, .int .i64 y.b, .int .i64 y.c] 36) := ⟨_, rfl⟩
  rw [← hw0] at h1 h2 hE
  have HE := Lib.hid hE
  have H1 := Lib.hid h1
  have H2 := Lib.hid h2
  unfold k3
  clear h1 h2 hE
  go_enter Try.func19, Try.ntmps19
  go_wp2_with fail
  rw [← hw0]
  clear hw0
  refine DD.wp_region_mix [] [0, 1] [] [2, 3] (by kernel_rfl) (by kernel_rfl) (fun _ _ d _ _ h => by cases d <;> exact h) ?_
  refine DD.wpPre_nil ?_
  repeat (refine DD.wpLoose_step rfl (fun K hK => ?_); (try simp only [Oper.quietAt, Oper.quietUpon]); go_simp; (refine hK _ ?_; clear hK K))
  refine DD.wpLoose_nil (DD.wpFresh_nil (fun w5 hE5 _ => ?_))
  have HE5 := Lib.hid (DD.ext_trans HE.out hE5)
  have HX := Lib.hid ((DD.ext_block hE5 (block_lt H1.out)).trans H1.out)
  have HY := Lib.hid ((DD.ext_block hE5 (block_lt H2.out)).trans H2.out)
  clear hE5
  refine DD.wpSeq_of_list [2, 3] [_, _] _ _ rfl ?_
  simp only [Act.put, List.getElem_toArray, List.getElem_cons_succ, List.getElem_cons_zero, List.setIfInBounds_toArray, List.set_cons_succ, List.set_cons_zero]
  go_wp2_with (go_at_call 20; refine (compare3_any x y _ _ w5 HX.out HY.out).mono ?_; rintro e w' ⟨rfl, rfl⟩)
  refine bodyPost_ret (results_tmp rfl _ _ _) rfl ?_
  exact ⟨rfl, HE5.out⟩
end Go.Proofs.Ytojgbphmkloicaa
