/- The document's tables: how they lie; compatible, Joined. -/
import Derived.Test.YtniggdaakiofeaaDoorGu
import Derived.Test.YtniggdaakiofeaaDoorTa
namespace Go.Proofs.YtniggdaakiofeaaDoor
open Go Go.RowKit Go.Sort
set_option maxHeartbeats 4000000

def elQ : El Sl := ⟨fun s => [slV s], 1, 52, by decide, fun _ => rfl, fun x u hu => by rw [List.mem_singleton.1 hu]; rfl⟩
noncomputable def tpQ : Tp Tryd.prog 32 elQ := ⟨(Tryd.prog.info? 52).get (by kernel_rfl), .slice none 0 0, 24, Tryd.underlying32, by kernel_rfl, by kernel_rfl, by kernel_rfl, by kernel_rfl, rfl, by decide⟩
theorem rowQ_cell {w : World} {g n c : Nat} {L : List Sl} (h : rowE elQ w (.slice (some ⟨g, 0, none⟩) n c) L) {i : Nat} {x : Sl} (hx : L[i]? = some x) : w.cell? ⟨g, i, none⟩ = some (slV x) := by
  have := rowE_cell h hx (j := 0) (u := slV x) rfl
  simpa [elQ] using this
/-- rows of pairs, as slices tell of them -/
def RowsQ (w : World) (sl : List Sl) (R : List (List VarN)) : Prop := sl.length = R.length ∧ ∀ (i : Nat) (s : Sl) (r : List VarN), sl[i]? = some s → R[i]? = some r → rowE elP w (slV s) r
theorem rowsQ_ext {w w' : World} {sl : List Sl} {R : List (List VarN)} (h : RowsQ w sl R) (hE : Ext w w') : RowsQ w' sl R := ⟨h.1, fun i s r hs hr => rowE_ext (h.2 i s r hs hr) hE⟩
theorem rowsQ_nil (w : World) : RowsQ w [] [] := ⟨rfl, fun i s r h => by simp at h⟩
theorem rowsQ_snoc {w : World} {sl : List Sl} {R : List (List VarN)} {s : Sl} {r : List VarN} (h : RowsQ w sl R) (hr : rowE elP w (slV s) r) : RowsQ w (sl ++ [s]) (R ++ [r]) := by
  refine ⟨by simp [h.1], fun i s' r' hs hr' => ?_⟩
  have hl := h.1
  rcases Nat.lt_or_ge i sl.length with hi | hi
  · rw [List.getElem?_append_left hi] at hs
    rw [List.getElem?_append_left (by omega)] at hr'
    exact h.2 i s' r' hs hr'
  · rw [List.getElem?_append_right hi] at hs
    rw [List.getElem?_append_right (by omega)] at hr'
    have hi0 : i - sl.length = 0 := by
      have := (List.getElem?_eq_some_iff.1 hs).1
      simp at this; omega
    rw [hi0] at hs
    rw [← hl, hi0] at hr'
    simp at hs hr'
    subst hs hr'
    exact hr
/-- the document's rows -/
def RdQ (w : World) (v : Value) (R : List (List VarN)) : Prop := ∃ sl : List Sl, rowE elQ w v sl ∧ RowsQ w sl R
theorem rdQ_ext {w w' : World} {v : Value} {R : List (List VarN)} (h : RdQ w v R) (hE : Ext w w') : RdQ w' v R := by
  obtain ⟨sl, h1, h2⟩ := h
  exact ⟨sl, rowE_ext h1 hE, rowsQ_ext h2 hE⟩
theorem rdQ_form {w : World} {v : Value} {R : List (List VarN)} (h : RdQ w v R) : ∃ A c, v = .slice A R.length c := by
  obtain ⟨sl, h1, h2⟩ := h
  obtain ⟨A, c, rfl⟩ := rowE_form h1
  exact ⟨A, c, by rw [h2.1]⟩
theorem rdQ_at {w : World} {A : Option Addr} {n c : Nat} {R : List (List VarN)} (h : RdQ w (.slice A n c) R) {i : Nat} {r : List VarN} (hr : R[i]? = some r) : ∃ b B d, A = some ⟨b, 0, none⟩ ∧ b < w.heap.size ∧ w.cell? ⟨b, i, none⟩ = some (.slice B r.length d) ∧ rowE elP w (.slice B r.length d) r := by
  obtain ⟨sl, h1, h2⟩ := h
  have hi : i < sl.length := by rw [h2.1]; exact (List.getElem?_eq_some_iff.1 hr).1
  have hs : sl[i]? = some sl[i] := List.getElem?_eq_getElem hi
  obtain ⟨g, rfl, hg⟩ := rowE_some h1 (fun e => by rw [e] at hi; simp at hi)
  have h3 := h2.2 i _ r hs hr
  obtain ⟨B, d, hs3⟩ := rowE_form h3
  exact ⟨g, B, d, rfl, hg, by rw [← hs3]; exact rowQ_cell h1 hs, by rw [← hs3]; exact h3⟩
/-- a table of the document -/
def TD (w : World) (v : Value) (V : List ByteArray) (R : List (List VarN)) : Prop := ∃ vv rv, v = .agg #[vv, rv] ∧ rowE elS w vv V ∧ RdQ w rv R
theorem tD_ext {w w' : World} {v : Value} {V : List ByteArray} {R : List (List VarN)} (h : TD w v V R) (hE : Ext w w') : TD w' v V R := by
  obtain ⟨vv, rv, h1, h2, h3⟩ := h
  exact ⟨vv, rv, h1, rowE_ext h2 hE, rdQ_ext h3 hE⟩
theorem tD_parts {w : World} {vv rv : Value} {V : List ByteArray} {R : List (List VarN)} (h : TD w (.agg #[vv, rv]) V R) : rowE elS w vv V ∧ RdQ w rv R := by
  obtain ⟨vv', rv', h1, h2, h3⟩ := h
  simp only [Value.agg.injEq, Array.mk.injEq, List.cons.injEq, and_true] at h1
  obtain ⟨rfl, rfl⟩ := h1
  exact ⟨h2, h3⟩
/-- one that is being built, at a place -/
def TDB (ok : Nat → Prop) (w : World) (p : Nat) (V : List ByteArray) (R : List (List VarN)) : Prop :=
  ∃ vv rv sl, w.heap[p]? = some (.cells #[vv, rv] 34 (0, 0)) ∧ rowE elS w vv V ∧ rowG elQ ok sl rv w ∧ RowsQ w sl R
theorem tDB_ext {ok : Nat → Prop} {w w' : World} {p : Nat} {V : List ByteArray} {R : List (List VarN)} (h : TDB ok w p V R) (hE : Ext w w') : TDB ok w' p V R := by
  obtain ⟨vv, rv, sl, h1, h2, h3, h4⟩ := h
  exact ⟨vv, rv, sl, (ext_block hE (block_lt h1)).trans h1, rowE_ext h2 hE, rowG_ext _ _ _ hE h3, rowsQ_ext h4 hE⟩
theorem tDB_mono {ok ok' : Nat → Prop} {w : World} {p : Nat} {V : List ByteArray} {R : List (List VarN)} (h : TDB ok w p V R) (hh : ∀ g, ok g → ok' g) : TDB ok' w p V R := by
  obtain ⟨vv, rv, sl, h1, h2, h3, h4⟩ := h
  exact ⟨vv, rv, sl, h1, h2, rowG_mono h3 hh, h4⟩
theorem tDB_td {ok : Nat → Prop} {w : World} {p : Nat} {vv rv : Value} {V : List ByteArray} {R : List (List VarN)} (h : TDB ok w p V R) (hb : w.heap[p]? = some (.cells #[vv, rv] 34 (0, 0))) : TD w (.agg #[vv, rv]) V R := by
  obtain ⟨vv', rv', sl, h1, h2, h3, h4⟩ := h
  rw [hb] at h1
  simp only [Option.some.injEq, Obj.cells.injEq, Array.mk.injEq, List.cons.injEq, and_true] at h1
  obtain ⟨rfl, rfl⟩ := h1
  exact ⟨_, _, rfl, h2, sl, h3.1, h4⟩
/-- rows of pairs, of strings stay when blocks of other types turn -/
theorem rowE_off_upd {α : Type} {E : El α} {fp : Nat → Prop} {w w' : World} {v : Value} {L : List α} (h : rowE E w v L) (hU : Upd fp w w') (hf : ∀ b, fp b → ∀ cur t, w.heap[b]? = some (.cells cur t (0, 0)) → t ≠ E.ty) : rowE E w' v L :=
  rowE_upd h hU (fun b hb hf' => by
    obtain ⟨_, cur, hc⟩ := rowE_block h hb
    exact hf b hf' cur _ hc rfl)
/-- one more row -/
theorem tDB_more5 {ok : Nat → Prop} {w w5 : World} {p : Nat} {V : List ByteArray} {R : List (List VarN)} {vv rv v5 : Value} {sl : List Sl} {s : Sl} {r : List VarN} (hb : w.heap[p]? = some (.cells #[vv, rv] 34 (0, 0))) (h2 : rowE elS w vv V) (h3 : rowG elQ ok sl rv w) (h4 : RowsQ w sl R)
    (hr : rowE elP w5 (slV s) r) (hU : Upd (fun b => rv.ownBlock = some b) w w5) (h5 : rowG elQ ok (sl ++ [s]) v5 w5) :
    TDB ok (w5.setCell ⟨p, 1, none⟩ v5) p V (R ++ [r]) ∧ Upd (fun b => rv.ownBlock = some b ∨ b = p) w (w5.setCell ⟨p, 1, none⟩ v5) := by
  have hne : ∀ b, rv.ownBlock = some b → b ≠ p := fun b h1 e => rowE_off h3.1 hb (by decide) (h1.trans (by rw [e]))
  have hb5 := (hU.block p (block_lt hb) (fun e => hne p e rfl)).trans hb
  have hU6 : Upd (fun b => rv.ownBlock = some b ∨ b = p) w (w5.setCell ⟨p, 1, none⟩ v5) := upd_trans (upd_mono hU (fun _ _ h => .inl h)) (upd_setCell (a := ⟨p, 1, none⟩) _) (fun _ _ h => .inr h)
  have hoff : ∀ (t' : TypeId), t' ≠ 52 → t' ≠ 34 → ∀ b, (rv.ownBlock = some b ∨ b = p) → ∀ cur t, w.heap[b]? = some (.cells cur t (0, 0)) → t ≠ t' := by
    intro t' n1 n2 b hf cur t hbt
    rcases hf with hf | hf
    · obtain ⟨_, cur', hc'⟩ := rowE_block h3.1 hf
      rw [hbt] at hc'
      simp only [Option.some.injEq, Obj.cells.injEq] at hc'
      rw [hc'.2.1]
      exact fun e => n1 e.symm
    · subst hf
      rw [hb] at hbt
      simp only [Option.some.injEq, Obj.cells.injEq] at hbt
      rw [← hbt.2.1]
      exact fun e => n2 e.symm
  refine ⟨⟨vv, v5, sl ++ [s], heap_setCell_at hb5, rowE_off_upd h2 hU6 (hoff _ (by decide) (by decide)), ⟨rowE_upd h5.1 (upd_setCell (a := ⟨p, 1, none⟩) _) (fun b h1 (e : b = p) => rowE_off h5.1 hb5 (by decide) (h1.trans (by rw [e]))), h5.2⟩, ?_⟩, hU6⟩
  refine rowsQ_snoc ⟨h4.1, fun i s' r' hs hr' => rowE_off_upd (h4.2 i s' r' hs hr') hU6 (hoff _ (by decide) (by decide))⟩ ?_
  exact rowE_upd hr (upd_setCell (a := ⟨p, 1, none⟩) _) (fun b h1 (e : b = p) => rowE_off hr hb5 (by decide) (h1.trans (by rw [e])))
theorem tDB_more {ok : Nat → Prop} {w wa w5 : World} {p : Nat} {V : List ByteArray} {R : List (List VarN)} {vv rv v5 : Value} {sl : List Sl} {s : Sl} {r : List VarN} (hb : w.heap[p]? = some (.cells #[vv, rv] 34 (0, 0))) (h2 : rowE elS w vv V) (h3 : rowG elQ ok sl rv w) (h4 : RowsQ w sl R)
    (hE : Ext w wa) (hr : rowE elP wa (slV s) r) (hU : Upd (fun b => rv.ownBlock = some b) wa w5) (h5 : rowG elQ ok (sl ++ [s]) v5 w5) :
    TDB ok (w5.setCell ⟨p, 1, none⟩ v5) p V (R ++ [r]) ∧ Upd (fun b => rv.ownBlock = some b ∨ b = p) w (w5.setCell ⟨p, 1, none⟩ v5) := by
  have h3a := rowG_ext _ _ _ hE h3
  have hr5 : rowE elP w5 (slV s) r := rowE_off_upd hr hU (fun b hf cur t hbt => by
    obtain ⟨_, cur', hc'⟩ := rowE_block h3a.1 hf
    rw [hbt] at hc'
    simp only [Option.some.injEq, Obj.cells.injEq] at hc'
    rw [hc'.2.1]
    decide)
  exact tDB_more5 hb h2 h3 h4 hr5 (upd_trans (upd_of_ext hE) hU (fun _ _ h => h)) h5

theorem comp_drop {a b : List VarN} {j : Nat} {p : VarN} (h : a[j]? = some p) : compD (a.drop j) b = (!(decide (0 ≤ getR b p.1) && getR b p.1 != p.2) && compD (a.drop (j + 1)) b) := by
  obtain ⟨hj, he⟩ := List.getElem?_eq_some_iff.1 h
  rw [List.drop_eq_getElem_cons hj, compD, List.all_cons, he]; rfl
theorem rcomp_any (av bv : Value) (a b : List VarN) (w : World) (ha : rowE elP w av a) (hb : rowE elP w bv b) (h1 : a.length ≤ 1000000) (h2 : b.length ≤ 1000000) :
    Calls Tryd.prog 49 #[av, bv] w fun e w' => e = .returned (.bool (compD a b)) ∧ w' = w := by
  have HG := Lib.hid (fun x => get_any bv b x w hb h2)
  obtain ⟨A, c, rfl⟩ := rowE_form ha
  obtain ⟨B, d, rfl⟩ := rowE_form hb
  have HA := Lib.hid ha
  clear ha hb
  go_enter Tryd.func49, Tryd.ntmps49
  go_wp2
  go_loopw [9] (fun z wr => ∃ j : Nat, j ≤ a.length ∧ z = .int .i64 j ∧ wr = w ∧ compD (a.drop j) b = compD a b) (fun z _ => a.length - (intOf z).toNat)
  case atStart => exact ⟨0, Nat.zero_le _, rfl, rfl, rfl⟩
  case round =>
    obtain ⟨j, hj, rfl, hw, hpre⟩ := hrel
    subst hw
    rename World => w
    have HP := Lib.hid hpre
    clear hpre
    by_cases hlt : j < a.length
    · have hji : (j : Int) < (a.length : Int) := by omega
      have hj0 : (0 : Int) ≤ (j : Int) := by omega
      obtain ⟨q, hq⟩ : ∃ q, a[j]? = some q := ⟨_, List.getElem?_eq_getElem hlt⟩
      obtain ⟨g, rfl, hg⟩ := rowE_some HA.out (fun e => by rw [e] at hq; simp at hq)
      obtain ⟨q0, q1⟩ := rowP_cell HA.out hq
      have HC := Lib.hid (HG.out q.1)
      have HD := Lib.hid (comp_drop (b := b) hq)
      clear hq
      obtain ⟨k, n⟩ := q
      obtain ⟨m, hm⟩ : ∃ m, m = getR b k := ⟨_, rfl⟩
      simp only at HC HD
      rw [← hm] at HC HD
      clear hm
      by_cases hm0 : 0 ≤ m
      · by_cases hmn : m = n
        · have hne : (m != n) = false := by simp [hmn]
          have HNE := Lib.hid (show (decide (0 ≤ m) && m != n) = false by rw [hne, Bool.and_false])
          clear hmn
          go_wp2_with (go_at_call 48; refine HC.out.mono ?_; rintro e w1 ⟨rfl, hw1⟩; subst hw1)
          go_roundw
          case rel => exact ⟨j + 1, by omega, by go_num, trivial, by rw [← HP.out, HD.out, HNE.out]; simp⟩
          case measure => simp [intOf]; omega
        · have hne : (m != n) = true := by simp [hmn]
          have HNE := Lib.hid (show (decide (0 ≤ m) && m != n) = true by rw [hne, decide_eq_true hm0]; rfl)
          clear hmn
          go_wp2_with (go_at_call 48; refine HC.out.mono ?_; rintro e w1 ⟨rfl, hw1⟩; subst hw1)
          refine bodyPost_ret (results_tmp rfl _ _ _) rfl ?_
          exact ⟨by rw [← HP.out, HD.out, HNE.out]; rfl, rfl⟩
      · have HNE := Lib.hid (show (decide (0 ≤ m) && m != n) = false by rw [decide_eq_false hm0]; rfl)
        go_wp2_with (go_at_call 48; refine HC.out.mono ?_; rintro e w1 ⟨rfl, hw1⟩; subst hw1)
        go_roundw
        case rel => exact ⟨j + 1, by omega, by go_num, trivial, by rw [← HP.out, HD.out, HNE.out]; simp⟩
        case measure => simp [intOf]; omega
    · obtain rfl : j = a.length := by omega
      go_wp2
      refine bodyPost_ret (results_tmp rfl _ _ _) rfl ?_
      exact ⟨by rw [← HP.out, List.drop_length]; rfl, rfl⟩

theorem joinD_take {a b : List VarN} {j : Nat} {p : VarN} (h : b[j]? = some p) : joinD a (b.take (j + 1)) = putR (joinD a (b.take j)) p.1 p.2 := by
  unfold joinD
  rw [List.take_add_one, h, List.foldl_append]; rfl
theorem joinD_len : ∀ (b a : List VarN), (joinD a b).length ≤ a.length + b.length
  | [], a => by simp [joinD]
  | p :: b, a => by
    have h1 := joinD_len b (putR a p.1 p.2)
    have h2 := putR_length a p.1 p.2
    simp only [joinD, List.foldl_cons, List.length_cons] at h1 ⊢
    omega
theorem rowF0 {α : Type} {E : El α} {w : World} {v : Value} {L : List α} (h : rowE E w v L) : rowF E 0 L v w := ⟨h, fun _ _ => Nat.zero_le _⟩
theorem rjoined_any (av bv : Value) (a b : List VarN) (w : World) (ha : rowE elP w av a) (hb : rowE elP w bv b) (h1 : a.length ≤ 40000) (h2 : b.length ≤ 40000) :
    Calls Tryd.prog 50 #[av, bv] w fun e w' => ∃ v', e = .returned v' ∧ rowE elP w' v' (joinD a b) ∧ Ext w w' := by
  obtain ⟨A, c, rfl⟩ := rowE_form ha
  obtain ⟨B, d, rfl⟩ := rowE_form hb
  have HA := Lib.hid ha
  have HB := Lib.hid hb
  clear ha hb
  go_enter Tryd.func50, Tryd.ntmps50
  go_wp2_with (at_builtin; refine halt_here ?_)
  refine go_on ?_
  refine wpList_append rfl (.tmp 7) (.tmp 8) rfl _ _ rfl rfl (fun v' w' => Ext (w.alloc (.cells #[] 81)) w' ∧ rowF elP w.heap.size a v' w') (append_copy tpP _ w.heap.size _ _ a _ ⟨w.heap.size, rfl, Nat.le_refl _, heap_alloc_new w _⟩ (srcOf_ext (ext_alloc (ext_refl _) _) (srcOf_row HA.out)) (by omega)) ?_
  rintro v5 w5 ⟨hE5, hR5⟩
  have HE5 := Lib.hid (ext_trans (ext_alloc (ext_refl w) (.cells #[] 81)) hE5)
  have HR5 := Lib.hid hR5.1
  clear hE5 hR5
  go_wp2
  go_loopw [12, 5] (fun x y wr => ∃ j : Nat, j ≤ b.length ∧ x = .int .i64 j ∧ rowE elP wr y (joinD a (b.take j)) ∧ Ext w wr) (fun x _ _ => b.length - (intOf x).toNat)
  case atStart => exact ⟨0, Nat.zero_le _, rfl, HR5.out, HE5.out⟩
  case round =>
    rename World => wo
    obtain ⟨j, hj, rfl, hr, hE⟩ := hrel
    have HR := Lib.hid hr
    have HE := Lib.hid hE
    clear hr hE
    by_cases hlt : j < b.length
    · have hji : (j : Int) < (b.length : Int) := by omega
      have hj0 : (0 : Int) ≤ (j : Int) := by omega
      obtain ⟨q, hq⟩ : ∃ q, b[j]? = some q := ⟨_, List.getElem?_eq_getElem hlt⟩
      obtain ⟨g, rfl, hg⟩ := rowE_some HB.out (fun e => by rw [e] at hq; simp at hq)
      obtain ⟨q0, q1⟩ := rowP_cell (rowE_ext HB.out HE.out) hq
      have lg := ext_lt HE.out hg
      have HJ := Lib.hid (joinD_take (a := a) hq)
      have hl := joinD_len (b.take j) a
      rw [List.length_take] at hl
      obtain ⟨out, hout⟩ : ∃ out, out = joinD a (b.take j) := ⟨_, rfl⟩
      rw [← hout] at HJ HR hl
      have hl' : out.length ≤ 100000 := by omega
      clear hq hout hl hg
      obtain ⟨k, n⟩ := q
      have hgc := cell_grown
      go_wp2
      refine wp_region_gen [] [0, 1, 2, 3, 4, 5, 6, 7, 8, 9, 10] [(11, rowF elP 0 (putR out k n))] [12] [11] rfl (by kernel_rfl) (by kernel_rfl) (fun _ _ d _ _ h => by cases d <;> exact h) ?_
      refine wpPre_nil ?_
      repeat (refine wpLoose_step rfl (fun K hK => ?_); (try simp only [Oper.quietAt, Oper.quietUpon]); go_simp; (refine hK _ ?_; clear hK K))
      refine wpLoose_nil ?_
      refine wpGen_step rfl rfl rowF_ext (fun w6 hE6 hS6 => ?_) (fun v1 => ?_)
      · simp only [runsAt]
        go_simp
        refine (put_any _ out k n w6 (rowE_ext HR.out hE6) hl').mono ?_
        rintro e w7 ⟨v', rfl, h3, h4⟩
        exact ⟨_, rfl, h4, rowF0 h3⟩
      refine wpGen_nil (fun w6 hE6 hS6 => ?_)
      have hr6 := hS6 _ (List.mem_cons_self ..)
      have HR6 := Lib.hid (show rowF elP 0 (putR out k n) v1 w6 from hr6)
      have HE6 := Lib.hid (ext_trans HE.out hE6)
      clear hS6 hE6 hr6 q0 q1 hgc
      refine wpSeq_of_list [12] [_] _ _ rfl ?_
      go_wp2
      go_roundw
      case rel => exact ⟨j + 1, by omega, by go_num, by rw [HJ.out]; exact HR6.out.1, HE6.out⟩
      case measure => simp [intOf]; omega
    · obtain rfl : j = b.length := by omega
      go_wp2
      refine bodyPost_ret (results_tmp rfl _ _ _) rfl ?_
      exact ⟨_, rfl, by have := HR.out; rw [List.take_length] at this; exact this, HE.out⟩
end Go.Proofs.YtniggdaakiofeaaDoor
