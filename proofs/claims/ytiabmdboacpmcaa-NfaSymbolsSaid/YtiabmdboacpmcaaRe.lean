/- slices.Compact at symbols; Symbols. -/
import Derived.Test.YtiabmdboacpmcaaRb
import Derived.Test.YtiabmdboacpmcaaQo
namespace Go.Proofs.Ytiabmdboacpmcaa
open Go Go.RowKit Go.Sort
set_option maxHeartbeats 4000000


/-- what is left of the first j + 1 symbols, none like the one before it -/
def cptN (L : List Sy) : Nat → List Sy
  | 0 => L.take 1
  | j + 1 => match L[j]?, L[j + 1]? with
    | some a, some b => if b = a then cptN L j else cptN L j ++ [b]
    | _, _ => cptN L j
def cpt (L : List Sy) : List Sy := cptN L (L.length - 1)
theorem cptN_same {L : List Sy} {j : Nat} {a : Sy} (h1 : L[j]? = some a) (h2 : L[j + 1]? = some a) : cptN L (j + 1) = cptN L j := by
  rw [cptN, h1, h2]; simp
theorem cptN_other {L : List Sy} {j : Nat} {a b : Sy} (h1 : L[j]? = some a) (h2 : L[j + 1]? = some b) (h : b ≠ a) : cptN L (j + 1) = cptN L j ++ [b] := by
  rw [cptN, h1, h2]; simp [h]
theorem cptN_take {L : List Sy} : ∀ (j : Nat), j < L.length → (∀ k, k < j → L[k + 1]? ≠ L[k]?) → cptN L j = L.take (j + 1)
  | 0, _, _ => rfl
  | j + 1, hj, h => by
    have h1 : L[j]? = some L[j] := List.getElem?_eq_getElem (by omega)
    have h2 : L[j + 1]? = some L[j + 1] := List.getElem?_eq_getElem hj
    rw [cptN_other h1 h2 (fun e => h j (by omega) (by rw [h1, h2, e])), cptN_take j (by omega) (fun k hk => h k (by omega)), List.take_add_one (i := j + 1), h2]
    rfl
theorem cptN_len {L : List Sy} : ∀ (j : Nat), (cptN L j).length ≤ j + 1
  | 0 => by rw [cptN, List.length_take]; omega
  | j + 1 => by
    have := cptN_len (L := L) j
    rw [cptN]
    split
    · split
      · omega
      · rw [List.length_append]; simp; omega
    · omega
/-- in order, and each but once -/
def StrictS (L : List Sy) : Prop := L.Pairwise fun x y => cmpS x y < 0
theorem sy_eq {x y : Sy} (h1 : ¬ cmpS x y < 0) (h2 : ¬ cmpS y x < 0) : x = y := by
  rw [cmpS_neg] at h1 h2
  obtain ⟨x1, x2⟩ := x
  obtain ⟨y1, y2⟩ := y
  simp only at h1 h2
  have hw : wayN x2 = wayN y2 := by omega
  have hb : x2 = y2 := by
    cases x2 <;> cases y2 <;> simp [wayN] at hw ⊢
  have hx : x1 = y1 := by omega
  rw [hb, hx]
theorem cptN_spec {L : List Sy} (hs : SortedS L) : ∀ (j : Nat) (a : Sy), L[j]? = some a → (∀ s, s ∈ cptN L j ↔ s ∈ L.take (j + 1)) ∧ StrictS (cptN L j) ∧ ∀ s ∈ cptN L j, ¬ cmpS a s < 0
  | 0, a, ha => by
    have h1 : L.take 1 = [a] := by
      rw [List.take_add_one, ha]; simp
    rw [cptN, h1]
    refine ⟨fun s => Iff.rfl, List.pairwise_singleton _ _, fun s h => ?_⟩
    rw [List.mem_singleton.1 h, cmpS_neg]
    omega
  | j + 1, b, hb => by
    have hj : j + 1 < L.length := (List.getElem?_eq_some_iff.1 hb).1
    obtain ⟨a, ha⟩ : ∃ a, L[j]? = some a := ⟨_, List.getElem?_eq_getElem (by omega)⟩
    obtain ⟨h1, h2, h3⟩ := cptN_spec hs j a ha
    have hab : ¬ cmpS b a < 0 := by
      obtain ⟨p1, p2⟩ := List.getElem?_eq_some_iff.1 ha
      obtain ⟨q1, q2⟩ := List.getElem?_eq_some_iff.1 hb
      have := List.pairwise_iff_getElem.1 hs j (j + 1) p1 q1 (by omega)
      rwa [p2, q2] at this
    have htk : ∀ s, s ∈ L.take (j + 1 + 1) ↔ s ∈ L.take (j + 1) ∨ s = b := fun s => by
      rw [List.take_add_one (i := j + 1), hb, List.mem_append]; simp
    have ham : a ∈ cptN L j := (h1 a).2 (by rw [List.take_add_one, ha]; simp)
    by_cases he : b = a
    · subst he
      rw [cptN_same ha hb]
      exact ⟨fun s => by rw [h1, htk]; exact ⟨.inl, fun h => h.elim id (fun e => by rw [e]; exact (h1 _).1 ham)⟩, h2, h3⟩
    · rw [cptN_other ha hb he]
      have hlt : cmpS a b < 0 := Classical.byContradiction fun h => he (sy_eq hab h)
      have hall : ∀ s ∈ cptN L j, cmpS s b < 0 := fun s hsm => by
        have h4 := h3 s hsm
        rw [cmpS_neg] at h4 hlt ⊢
        omega
      refine ⟨fun s => by rw [List.mem_append, h1, htk, List.mem_singleton], List.pairwise_append.2 ⟨h2, List.pairwise_singleton _ _, fun x hx y hy => by rw [List.mem_singleton.1 hy]; exact hall x hx⟩, fun s hsm => ?_⟩
      rcases List.mem_append.1 hsm with h | h
      · have := hall s h
        rw [cmpS_neg] at this ⊢
        omega
      · rw [List.mem_singleton.1 h, cmpS_neg]
        omega
theorem cpt_spec {L : List Sy} (hs : SortedS L) : (∀ s, s ∈ cpt L ↔ s ∈ L) ∧ StrictS (cpt L) := by
  unfold cpt
  by_cases h0 : L = []
  · subst h0
    exact ⟨fun s => by simp [cptN], List.Pairwise.nil⟩
  · have hl := List.length_pos_iff.2 h0
    obtain ⟨h1, h2, -⟩ := cptN_spec hs (L.length - 1) _ (List.getElem?_eq_getElem (by omega))
    rw [show L.length - 1 + 1 = L.length by omega, List.take_length] at h1
    exact ⟨h1, h2⟩
theorem strictS_unique {L M : List Sy} (hL : StrictS L) (hM : StrictS M) (h : ∀ s, s ∈ L ↔ s ∈ M) : L = M := by
  have nd : ∀ {K : List Sy}, StrictS K → K.Nodup := fun hK => hK.imp (fun {a b} h e => by rw [e, cmpS_neg] at h; omega)
  exact List.Perm.eq_of_pairwise (le := fun x y => cmpS x y < 0) (fun a b _ _ h1 h2 => by rw [cmpS_neg] at h1 h2; omega) hL hM ((List.perm_ext_iff_of_nodup (nd hL) (nd hM)).2 h)
theorem flatY_set : ∀ (L : List Sy) (i : Nat) (b : Sy), i < L.length → ((flatE elY L).set (i * 2) (.int .i64 b.1)).set (i * 2 + 1) (.bool b.2) = flatE elY (L.set i b)
  | [], i, b, h => by simp at h
  | x :: r, 0, b, h => by
    rw [List.set_cons_zero, flatE_cons, flatE_cons]
    simp [elY]
  | x :: r, i + 1, b, h => by
    rw [List.set_cons_succ, flatE_cons, flatE_cons, ← flatY_set r i b (by simpa using h)]
    simp only [elY, List.cons_append, List.nil_append]
    rw [show (i + 1) * 2 = i * 2 + 1 + 1 by omega, List.set_cons_succ, List.set_cons_succ, List.set_cons_succ, List.set_cons_succ]
theorem rowY_set {w : World} {H g n c i : Nat} {L : List Sy} {b : Sy} (h : rowF elY H L (.slice (some ⟨g, 0, none⟩) n c) w) (hi : i < L.length) :
    rowF elY H (L.set i b) (.slice (some ⟨g, 0, none⟩) n c) ((w.setCell ⟨g, i * 2, none⟩ (.int .i64 b.1)).setCell ⟨g, i * 2 + 1, none⟩ (.bool b.2)) := by
  rcases rowE_cases h.1 with ⟨h1, h2⟩ | ⟨g', cap, cur, h1, hg, h2, h3, h4, h5⟩
  · cases h1
  · simp only [Value.slice.injEq, Option.some.injEq, Addr.mk.injEq, and_true] at h1
    obtain ⟨rfl, rfl, rfl⟩ := h1
    refine ⟨⟨by rw [flatE_length], .inr ⟨g, c, (cur.setIfInBounds (i * 2) (.int .i64 b.1)).setIfInBounds (i * 2 + 1) (.bool b.2), by simp, Nat.zero_le _, by rw [heap_setCell_at (heap_setCell_at hg)], by simpa using h2, h3, by simp [h4], ?_⟩⟩, h.2⟩
    rw [List.length_set, ← flatY_set L i b hi]
    simp only [Array.toList_setIfInBounds, List.take_set, h5]

theorem cutY {w : World} {g n c idx : Nat} {R : List Sy} {H : Nat} (h : rowF elY H R (.slice (some ⟨g, 0, none⟩) n c) w) (hi : idx < R.length) (cur : Array Value) (hg : w.heap[g]? = some (.cells cur 42 (0, 0))) (zs : List Value) (hz : idx * 2 + zs.length ≤ cur.size) :
    RdY (w.setRow g (splice cur.toList (idx * 2) zs).toArray) (.slice (some ⟨g, 0, none⟩) idx c) (R.take idx) := by
  have hl : (R.take idx).length = idx := by rw [List.length_take]; omega
  have hc := (rowE_cap h.1)
  have hgn := setRow_heap w g cur (splice cur.toList (idx * 2) zs).toArray 42 (0, 0) hg
  have same : ∀ o, o < idx * 2 → (w.setRow g (splice cur.toList (idx * 2) zs).toArray).cell? ⟨g, o, none⟩ = w.cell? ⟨g, o, none⟩ := fun o ho => by
    rw [block_cell hgn, block_cell hg]
    have : o < cur.toList.length := by rw [Array.length_toList]; omega
    simp only [List.getElem?_toArray, splice]
    rw [List.getElem?_append_left (by rw [List.length_take]; omega), List.getElem?_take_of_lt ho]
    simp
  refine ⟨_, c, by rw [hl], by rw [hl]; omega, fun hne => ⟨g, 0, rfl, block_lt hgn, fun i x hx => ?_⟩⟩
  rw [List.getElem?_take] at hx
  split at hx
  · rename_i hlt
    have c0 := rowE_cell h.1 hx (j := 0) (u := .int .i64 x.1) rfl
    have c1 := rowE_cell h.1 hx (j := 1) (u := .bool x.2) rfl
    rw [Nat.zero_add]
    exact ⟨(same _ (by omega)).trans c0, (same _ (by omega)).trans c1⟩
  · cases hx
theorem zero_one (n : Nat) : ∀ v ∈ (Builtin.zeroCells (Value.agg #[.int .i64 0, .bool false]).cells n).toList, v.oneCell' = true := by
  intro v hv
  simp only [Builtin.zeroCells, Array.toList_map, List.mem_map] at hv
  obtain ⟨i, -, rfl⟩ := hv
  have : i % 2 = 0 ∨ i % 2 = 1 := by omega
  have hs : ((Value.agg #[.int .i64 0, .bool false]).cells).size = 2 := rfl
  rw [hs]
  rcases this with h | h <;> rw [h] <;> rfl
def CptPost (H : Nat) (v : Value) (L : List Sy) (w : World) (e : Ending) (w' : World) : Prop := ∃ v', e = .returned v' ∧ RdY w' v' (cpt L) ∧ (∃ A c, v' = .slice A (cpt L).length c) ∧ (∀ b, v'.ownBlock = some b → v.ownBlock = some b) ∧ Upd (fun b => v.ownBlock = some b) w w'
theorem compact_any (H : Nat) (v : Value) (L : List Sy) (w : World) (h : rowF elY H L v w) (hm : L.length ≤ 1000000) : Calls Try.prog 86 #[v] w (CptPost H v L w) := by
  obtain ⟨A, cap, rfl⟩ := rowE_form h.1
  have HR := Lib.hid h
  have hcap := (rowE_cap h.1).2
  clear h
  by_cases h2 : L.length < 2
  · have h2i : (L.length : Int) < 2 := by omega
    have hc : cpt L = L := by
      unfold cpt
      rw [show L.length - 1 = 0 by omega, cptN, List.take_of_length_le (by omega)]
    have HC := Lib.hid hc
    clear h2 hc
    go_enter Try.func86, Try.ntmps86
    go_wp2
    refine bodyPost_ret (results_tmp rfl _ _ _) rfl ?_
    exact ⟨_, rfl, by rw [HC.out]; exact rdY_row HR.out.1, ⟨A, cap, by rw [HC.out]; rfl⟩, fun b hb => hb, upd_refl⟩
  · have h2i : ¬ (L.length : Int) < 2 := by omega
    obtain ⟨g, rfl, lg⟩ := rowE_some HR.out.1 (fun e => by rw [e] at h2; simp at h2)
    go_enter Try.func86, Try.ntmps86
    go_wp2
    go_loopw [3] (fun x wr => ∃ i : Nat, i + 1 ≤ L.length ∧ x = .int .i64 ((i + 1 : Nat) : Int) ∧ (∀ k, k < i → L[k + 1]? ≠ L[k]?) ∧ Ext w wr) (fun x _ => L.length - (intOf x).toNat)
    case atStart => exact ⟨0, by omega, rfl, fun k hk => by omega, ext_refl _⟩
    case round =>
      rename World => wr
      obtain ⟨i, hi, rfl, hno, hE⟩ := hrel
      have HNO := Lib.hid hno
      have HE := Lib.hid hE
      clear hno hE
      by_cases hlt : i + 1 < L.length
      · obtain ⟨j, hj⟩ : ∃ j, j = i + 1 := ⟨_, rfl⟩
        rw [← hj] at hlt ⊢
        have hii : (j : Int) < (L.length : Int) := by omega
        have hii0 : (0 : Int) ≤ (j : Int) := by omega
        have hi1 : (i : Int) < (L.length : Int) := by omega
        have hi10 : (0 : Int) ≤ (i : Int) := by omega
        have hi1n : i < L.length := by omega
        have hcast : ((j : Int) - 1) = (i : Int) := by omega
        obtain ⟨⟨a1, a2⟩, ha⟩ : ∃ a, L[i]? = some a := ⟨_, List.getElem?_eq_getElem (by omega)⟩
        obtain ⟨⟨b1, b2⟩, hb⟩ : ∃ a, L[j]? = some a := ⟨_, List.getElem?_eq_getElem hlt⟩
        have hrw := (rowF_ext _ _ _ HE.out HR.out).1
        have z0 : wr.cell? ⟨g, i * 2, none⟩ = some (.int .i64 a1) := rowE_cell hrw ha (j := 0) (u := .int .i64 a1) rfl
        have z1 : wr.cell? ⟨g, i * 2 + 1, none⟩ = some (.bool a2) := rowE_cell hrw ha (j := 1) (u := .bool a2) rfl
        have y0 : wr.cell? ⟨g, j * 2, none⟩ = some (.int .i64 b1) := rowE_cell hrw hb (j := 0) (u := .int .i64 b1) rfl
        have y1 : wr.cell? ⟨g, j * 2 + 1, none⟩ = some (.bool b2) := rowE_cell hrw hb (j := 1) (u := .bool b2) rfl
        have lg' := ext_lt HE.out lg
        have HA := Lib.hid ha
        have HB := Lib.hid hb
        have hgc := cell_grown
        have hwi : IntKind.i64.wrap (i : Int) = (i : Int) := wrap_small _ (by omega) (by omega)
        have hcj : cap ≠ j := by omega
        have hjn : j ≤ L.length := by omega
        have HJ := Lib.hid hj
        clear ha hb hrw hj
        by_cases he : (b1, b2) = (a1, a2)
        · have heq : ∀ w : World, Sem.run Try.prog (Op.equalIn 10000 42 (.agg #[.int .i64 b1, .bool b2]) (.agg #[.int .i64 a1, .bool a2])) w = .ok true w := fun w => by rw [eq42, decide_eq_true he]
          have HEQ := Lib.hid he
          clear he
          go_wp2_with fail
          refine wp_region_free 10 [0, 1, 2, 3, 4, 5, 6, 7, 8, 9] [] (by kernel_rfl) (by kernel_rfl) ?_
          repeat (refine wpLoose_step rfl (fun K hK => ?_); (try simp only [Oper.quietAt, Oper.quietUpon]); go_simp; (refine hK _ ?_; clear hK K))
          refine wpLoose_nil (wpFresh_nil (fun w3 hE3 _ => ?_))
          have HE3 := Lib.hid (ext_trans HE.out hE3)
          clear hE3
          simp only [List.drop_succ_cons, List.drop_zero]
          refine wpList_nil ?_
          clear z0 z1 y0 y1 hgc hwi heq
          go_wp2
          go_loopw [5, 3] (fun x y wz => ∃ (q idx : Nat) (R : List Sy), j + q + 1 ≤ L.length ∧ x = .int .i64 ((q + 1 : Nat) : Int) ∧ y = .int .i64 (idx : Int) ∧ rowF elY H R (.slice (some ⟨g, 0, none⟩) L.length cap) wz ∧ R.length = L.length ∧ 1 ≤ idx ∧ idx ≤ j + q ∧ R.take idx = cptN L (j + q) ∧ (∀ p, j + q ≤ p → R[p]? = L[p]?) ∧ Upd (fun b => b = g) w wz) (fun x _ _ => L.length - (intOf x).toNat)
          case atStart => exact ⟨0, j, L, by omega, rfl, rfl, rowF_ext _ _ _ HE3.out HR.out, rfl, by have := HJ.out; omega, by omega, by
            rw [HJ.out, Nat.add_zero, cptN_same HA.out (by rw [← HJ.out, HB.out, HEQ.out]), cptN_take i hi1n HNO.out], fun _ _ => rfl, upd_of_ext HE3.out⟩
          case round =>
            rename World => wz
            obtain ⟨q, idx, R, hq, rfl, rfl, hrow, hRl, hidx1, hidx, htk, hrest, hU⟩ := hrel
            have HROW := Lib.hid hrow
            have HRL := Lib.hid hRl
            have HTK := Lib.hid htk
            have HREST := Lib.hid hrest
            have HU := Lib.hid hU
            clear hrow hRl htk hrest hU
            obtain ⟨t, ht⟩ : ∃ t, t = q + 1 := ⟨_, rfl⟩
            rw [← ht]
            by_cases hlt2 : j + q + 1 < L.length
            · have htn : t < L.length - j := by omega
              have hti : (t : Int) < ((L.length - j : Nat) : Int) := by omega
              have hti0 : (0 : Int) ≤ (t : Int) := by omega
              have hqn : q < L.length - j := by omega
              have hqi : (q : Int) < ((L.length - j : Nat) : Int) := by omega
              have hqi0 : (0 : Int) ≤ (q : Int) := by omega
              have htq : ((t : Int) - 1) = (q : Int) := by omega
              have hwq : IntKind.i64.wrap (q : Int) = (q : Int) := wrap_small _ (by omega) (by omega)
              obtain ⟨⟨c1, c2⟩, hc⟩ : ∃ a, L[j + q]? = some a := ⟨_, List.getElem?_eq_getElem (by omega)⟩
              obtain ⟨⟨d1, d2⟩, hd⟩ : ∃ a, L[j + q + 1]? = some a := ⟨_, List.getElem?_eq_getElem hlt2⟩
              have hcR := (HREST.out (j + q) (Nat.le_refl _)).trans hc
              have hdR := (HREST.out (j + q + 1) (by omega)).trans hd
              have z0 : wz.cell? ⟨g, j * 2 + q * 2, none⟩ = some (.int .i64 c1) := by rw [show j * 2 + q * 2 = (j + q) * 2 by omega]; exact rowE_cell HROW.out.1 hcR (j := 0) (u := .int .i64 c1) rfl
              have z1 : wz.cell? ⟨g, j * 2 + q * 2 + 1, none⟩ = some (.bool c2) := by rw [show j * 2 + q * 2 = (j + q) * 2 by omega]; exact rowE_cell HROW.out.1 hcR (j := 1) (u := .bool c2) rfl
              have y0 : wz.cell? ⟨g, j * 2 + t * 2, none⟩ = some (.int .i64 d1) := by rw [show j * 2 + t * 2 = (j + q + 1) * 2 by omega]; exact rowE_cell HROW.out.1 hdR (j := 0) (u := .int .i64 d1) rfl
              have y1 : wz.cell? ⟨g, j * 2 + t * 2 + 1, none⟩ = some (.bool d2) := by rw [show j * 2 + t * 2 = (j + q + 1) * 2 by omega]; exact rowE_cell HROW.out.1 hdR (j := 1) (u := .bool d2) rfl
              obtain ⟨lgz, cur, hgz⟩ := rowE_block HROW.out.1 (show (Value.slice (some ⟨g, 0, none⟩) L.length cap).ownBlock = some g from rfl)
              have hgc := cell_grown
              have HT := Lib.hid ht
              have HC := Lib.hid hc
              have HD := Lib.hid hd
              have HGZ := Lib.hid hgz
              clear hc hd hcR hdR ht hgz
              by_cases he : (d1, d2) = (c1, c2)
              · have heq : ∀ w : World, Sem.run Try.prog (Op.equalIn 10000 42 (.agg #[.int .i64 d1, .bool d2]) (.agg #[.int .i64 c1, .bool c2])) w = .ok true w := fun w => by rw [eq42, decide_eq_true he]
                have HE2 := Lib.hid he
                clear he
                go_wp2_with fail
                refine wp_region_free 10 [0, 1, 2, 3, 4, 5, 6, 7, 8, 9] [] (by kernel_rfl) (by kernel_rfl) ?_
                repeat (refine wpLoose_step rfl (fun K hK => ?_); (try simp only [Oper.quietAt, Oper.quietUpon]); go_simp; (refine hK _ ?_; clear hK K))
                refine wpLoose_nil (wpFresh_nil (fun w5 hE5 _ => ?_))
                have HE5 := Lib.hid hE5
                clear hE5 z0 z1 y0 y1 heq hwq
                simp only [List.drop_succ_cons, List.drop_zero]
                refine wpList_nil ?_
                go_wp2
                go_roundw
                case rel => exact ⟨q + 1, idx, R, by omega, by rw [HT.out]; go_num, rfl, rowF_ext _ _ _ HE5.out HROW.out, HRL.out, hidx1, by omega, by
                  rw [HTK.out]
                  exact (cptN_same HC.out (by rw [HD.out, HE2.out])).symm, fun p hp => HREST.out p (by omega), upd_trans HU.out (upd_of_ext (fp := fun b => b = g) HE5.out) (fun _ _ h => h)⟩
                case measure => have := HT.out; simp [intOf]; omega
              · have heq : ∀ w : World, Sem.run Try.prog (Op.equalIn 10000 42 (.agg #[.int .i64 d1, .bool d2]) (.agg #[.int .i64 c1, .bool c2])) w = .ok false w := fun w => by rw [eq42, decide_eq_false he]
                have HE2 := Lib.hid he
                clear he
                go_wp2_with fail
                refine wp_region_free 10 [0, 1, 2, 3, 4, 5, 6, 7, 8, 9] [] (by kernel_rfl) (by kernel_rfl) ?_
                repeat (refine wpLoose_step rfl (fun K hK => ?_); (try simp only [Oper.quietAt, Oper.quietUpon]); go_simp; (refine hK _ ?_; clear hK K))
                refine wpLoose_nil (wpFresh_nil (fun w5 hE5 _ => ?_))
                have hgz5 := (ext_block hE5 (block_lt HGZ.out)).trans HGZ.out
                have hidn : idx < L.length := by omega
                have hidi : (idx : Int) < (L.length : Int) := by omega
                have hidi0 : (0 : Int) ≤ (idx : Int) := by omega
                obtain ⟨⟨r1, r2⟩, hr⟩ : ∃ a, R[idx]? = some a := ⟨_, List.getElem?_eq_getElem (by rw [HRL.out]; exact hidn)⟩
                have hrow5 := rowF_ext _ _ _ hE5 HROW.out
                have x0 : w5.cell? ⟨g, idx * 2, none⟩ = some (.int .i64 r1) := rowE_cell hrow5.1 hr (j := 0) (u := .int .i64 r1) rfl
                have x1 : w5.cell? ⟨g, idx * 2 + 1, none⟩ = some (.bool r2) := rowE_cell hrow5.1 hr (j := 1) (u := .bool r2) rfl
                have v0 := (ext_cell hE5 _ _ lgz).trans y0
                have v1 := (ext_cell hE5 _ _ lgz).trans y1
                have f0 := block_frozen hgz5 (idx * 2)
                have f1 := block_frozen hgz5 (idx * 2 + 1)
                have lg5 := block_lt hgz5
                have HR5 := Lib.hid (rowY_set (b := (d1, d2)) hrow5 (by rw [HRL.out]; exact hidn))
                have hu5 := upd_trans HU.out (upd_of_ext (fp := fun b => b = g) hE5) (fun _ _ h => h)
                have HU5 := Lib.hid (upd_trans (upd_trans hu5 (upd_setCell (a := ⟨g, idx * 2, none⟩) (.int .i64 d1)) (fun _ _ h => h)) (upd_setCell (a := ⟨g, idx * 2 + 1, none⟩) (.bool d2)) (fun _ _ h => h))
                clear hE5 z0 z1 y0 y1 heq hwq hgz5 hrow5 hu5 hgc hr
                simp only [List.drop_succ_cons, List.drop_zero]
                refine wpList_nil ?_
                go_wp2
                go_roundw
                case rel => exact ⟨q + 1, idx + 1, R.set idx (d1, d2), by omega, by rw [HT.out]; go_num, by go_num, HR5.out, by rw [List.length_set]; exact HRL.out, by omega, by omega, by
                  rw [← Nat.add_assoc, cptN_other HC.out HD.out HE2.out, ← HTK.out, List.take_set, List.take_add_one]
                  have hlen : (R.take idx).length = idx := by rw [List.length_take, HRL.out]; omega
                  rw [List.getElem?_eq_getElem (by rw [HRL.out]; exact hidn), Option.toList_some, List.set_append_right _ _ (by omega), hlen, Nat.sub_self, List.set_cons_zero], fun p hp => by
                  rw [List.getElem?_set_ne (by omega)]
                  exact HREST.out p (by omega), HU5.out⟩
                case measure => have := HT.out; simp [intOf]; omega
            · have htl : t = L.length - j := by omega
              have hti : ¬ (t : Int) < ((L.length - j : Nat) : Int) := by omega
              have hidn : idx ≤ L.length := by omega
              have hidi : (idx : Int) ≤ (L.length : Int) := by omega
              have hidc : idx ≤ cap := by omega
              have hici : (idx : Int) ≤ (cap : Int) := by omega
              have hidi0 : (0 : Int) ≤ (idx : Int) := by omega
              have hcidx : cap ≠ idx := by omega
              have hjq : j + q = L.length - 1 := by omega
              have hidlt : idx < L.length := by omega
              obtain ⟨lgz, cur, hgz⟩ := rowE_block HROW.out.1 (show (Value.slice (some ⟨g, 0, none⟩) L.length cap).ownBlock = some g from rfl)
              have HGZ := Lib.hid hgz
              have HCS : Hid (cur.size = cap * 2) := Lib.hid (by
                rcases rowE_cases HROW.out.1 with ⟨h1, h2⟩ | ⟨g', cap', cur', h1, h2, -, -, h4, -⟩
                · cases h1
                · simp only [Value.slice.injEq, Option.some.injEq, Addr.mk.injEq, and_true] at h1
                  obtain ⟨rfl, -, rfl⟩ := h1
                  rw [hgz] at h2
                  simp only [Option.some.injEq, Obj.cells.injEq, and_true, true_and] at h2
                  rw [h2]
                  exact h4)
              have HJQ := Lib.hid hjq
              clear htl ht hjq hgz
              go_wp2_with (with_reducible refine wpList_haltX ?_)
              refine go_on ?_
              have hzl : (Builtin.zeroCells (Value.agg #[.int .i64 0, .bool false]).cells (L.length - idx)).toList.length = (L.length - idx) * 2 := by
                rw [Array.length_toList, size_zeroCells]; rfl
              have hz1 : ∀ v ∈ (Builtin.zeroCells (Value.agg #[.int .i64 0, .bool false]).cells (L.length - idx)).toList, v.oneCell' = true := zero_one _
              have HRD := Lib.hid (cutY HROW.out (by rw [HRL.out]; omega) cur HGZ.out (Builtin.zeroCells (Value.agg #[.int .i64 0, .bool false]).cells (L.length - idx)).toList (by rw [hzl, HCS.out]; omega))
              refine wpList_clear_any _ rfl (.tmp 56) 43 rfl 42 (.agg #[.int .i64 0, .bool false]) Try.underlying43 Try.zeroValue42 g (idx * 2) (L.length - idx) (cap - idx) (by rfl) cur 42 HGZ.out (by rw [hzl, HCS.out]; omega) hz1 (by omega) ?_
              have HUF := Lib.hid (upd_trans HU.out (upd_setRow (w := wz) (g := g) (splice cur.toList (idx * 2) (Builtin.zeroCells (Value.agg #[.int .i64 0, .bool false]).cells (L.length - idx)).toList).toArray) (fun _ _ h => h))
              obtain ⟨wf, hwf⟩ : ∃ wf, wf = wz.setRow g (splice cur.toList (idx * 2) (Builtin.zeroCells (Value.agg #[.int .i64 0, .bool false]).cells (L.length - idx)).toList).toArray := ⟨_, rfl⟩
              rw [← hwf] at HRD HUF ⊢
              clear hwf hzl hz1
              go_wp2
              refine bodyPost_ret (results_tmp rfl _ _ _) rfl ?_
              have hcp : cpt L = R.take idx := by unfold cpt; rw [HTK.out, HJQ.out]
              have hcl : (cpt L).length = idx := by rw [hcp, List.length_take, HRL.out]; omega
              exact ⟨_, rfl, by rw [hcp]; exact HRD.out, ⟨_, cap, by rw [hcl]; rfl⟩, fun b hb => hb, upd_mono HUF.out (fun b _ e => by rw [e]; rfl)⟩
        · have heq : ∀ w : World, Sem.run Try.prog (Op.equalIn 10000 42 (.agg #[.int .i64 b1, .bool b2]) (.agg #[.int .i64 a1, .bool a2])) w = .ok false w := fun w => by rw [eq42, decide_eq_false he]
          have HEQ := Lib.hid he
          clear he
          go_wp2_with fail
          refine wp_region_free 10 [0, 1, 2, 3, 4, 5, 6, 7, 8, 9] [] (by kernel_rfl) (by kernel_rfl) ?_
          repeat (refine wpLoose_step rfl (fun K hK => ?_); (try simp only [Oper.quietAt, Oper.quietUpon]); go_simp; (refine hK _ ?_; clear hK K))
          refine wpLoose_nil (wpFresh_nil (fun w3 hE3 _ => ?_))
          have HE3 := Lib.hid (ext_trans HE.out hE3)
          clear hE3
          simp only [List.drop_succ_cons, List.drop_zero]
          refine wpList_nil ?_
          go_wp2
          go_roundw
          case rel => exact ⟨i + 1, by have := HJ.out; omega, by rw [HJ.out]; go_num, fun k hk => by
            by_cases hk2 : k < i
            · exact HNO.out k hk2
            · obtain rfl : k = i := by omega
              rw [HA.out, ← HJ.out, HB.out]
              exact fun e => HEQ.out (Option.some.inj e), HE3.out⟩
          case measure => have := HJ.out; simp [intOf]; omega
      · obtain rfl : i = L.length - 1 := by omega
        have hii : ¬ ((L.length - 1 + 1 : Nat) : Int) < (L.length : Int) := by omega
        have hc : cpt L = L := by
          unfold cpt
          rw [cptN_take _ (by omega) HNO.out, show L.length - 1 + 1 = L.length by omega, List.take_length]
        have HC := Lib.hid hc
        clear hc
        go_wp2
        refine bodyPost_ret (results_tmp rfl _ _ _) rfl ?_
        exact ⟨_, rfl, by rw [HC.out]; exact rdY_row (rowF_ext _ _ _ HE.out HR.out).1, ⟨_, cap, by rw [HC.out]; rfl⟩, fun b hb => hb, upd_of_ext HE.out⟩

mutual
/-- the symbols that stand in a path -/
def symT : Tr → List Sy
  | .node k n ps => if k = 0 ∨ k = 1 then [(n, decide (k = 1))] else symL ps
def symL : List Tr → List Sy
  | [] => []
  | p :: r => symT p ++ symL r
end
theorem symL_take {ps : List Tr} {j : Nat} {q : Tr} (h : ps[j]? = some q) : symL (ps.take (j + 1)) = symL (ps.take j) ++ symT q := by
  induction ps generalizing j with
  | nil => simp at h
  | cons p r ih =>
    cases j with
    | zero =>
      simp only [List.getElem?_cons_zero, Option.some.injEq] at h
      subst h
      simp [symL]
    | succ j =>
      have := ih (j := j) (by simpa using h)
      rw [List.take_succ_cons, symL, this, List.take_succ_cons, symL, List.append_assoc]
theorem symT_ne : ∀ (t : Tr), formB t = true → symT t ≠ []
  | .node k n ps, h => by
    rw [symT]
    split
    · simp
    · rename_i hk
      rw [formB, if_neg hk] at h
      match ps, h with
      | [], h => exact absurd h (by split <;> simp)
      | p :: r, h =>
        rw [symL]
        have hp : formB p = true := by
          split at h
          · rw [Bool.and_eq_true, formL, Bool.and_eq_true] at h; exact h.2.1
          · split at h
            · rw [Bool.and_eq_true, formL, Bool.and_eq_true] at h; exact h.2.1
            · cases h
        intro e
        exact symT_ne p hp (List.append_eq_nil_iff.1 e).1
structure SymsOf (t : Tr) (L : List Sy) : Prop where
  strict : StrictS L
  mem : ∀ s, s ∈ L ↔ s ∈ symT t
  len : L.length ≤ sizeT t
theorem srcOf_rdY {w : World} {v : Value} {L : List Sy} (h : RdY w v L) : SrcOf elY w v L := by
  obtain ⟨A, c, rfl, hc, hA⟩ := h
  refine ⟨A, c, rfl, fun hne => ?_⟩
  obtain ⟨b, off, rfl, -, hcs⟩ := hA hne
  refine ⟨_, rfl, fun j u hu => ?_⟩
  have hjl : j < L.length * 2 := by
    have := (List.getElem?_eq_some_iff.1 hu).1
    rwa [flatE_length] at this
  have hi : j / 2 < L.length := by omega
  have hx : L[j / 2]? = some L[j / 2] := List.getElem?_eq_getElem hi
  have h1 := flatE_at elY L (j / 2) _ hx (j % 2) (Nat.mod_lt _ (by decide))
  rw [show j / 2 * elY.size + j % 2 = j from Nat.div_add_mod' j 2, hu] at h1
  obtain ⟨h2, h3⟩ := hcs _ _ hx
  rw [addr_add0]
  have hm : j % 2 = 0 ∨ j % 2 = 1 := by omega
  rcases hm with hm | hm
  · rw [hm] at h1
    simp only [elY, List.getElem?_cons_zero] at h1
    rw [h1, show off + j = off + j / 2 * 2 by omega]
    exact h2
  · rw [hm] at h1
    simp only [elY, List.getElem?_cons_succ, List.getElem?_cons_zero] at h1
    rw [h1, show off + j = off + j / 2 * 2 + 1 by omega]
    exact h3
theorem cpt_len (L : List Sy) : (cpt L).length ≤ L.length := by
  unfold cpt
  cases L with
  | nil => simp [cptN]
  | cons x r => have := cptN_len (L := x :: r) ((x :: r).length - 1); rw [List.length_cons] at *; omega
def SymPost (t : Tr) (w : World) (e : Ending) (w' : World) : Prop := ∃ A c L, e = .returned (.slice A L.length c) ∧ RdY w' (.slice A L.length c) L ∧ SymsOf t L ∧ Ext w w'
def SymAt (N : Nat) : Prop := ∀ (t : Tr) (v : Value) (w : World), sizeT t ≤ N → formB t = true → PV w t v → Calls Try.prog 53 #[v] w (SymPost t w)
theorem sym_leaf (k n : Int) (v : Value) (w : World) (hk : k = 0 ∨ k = 1) (hv : PV w (.node k n []) v) : Calls Try.prog 53 #[v] w (SymPost (.node k n []) w) := by
  have HV := Lib.hid hv
  obtain ⟨s, rfl, hs⟩ := hv
  obtain ⟨A, c, rfl⟩ := PS_form hs
  clear hs
  have hsym : symT (.node k n []) = [(n, decide (k = 1))] := by rw [symT, if_pos hk]
  have HSY := Lib.hid hsym
  clear hsym
  rcases hk with rfl | rfl
  all_goals
    go_enter Try.func53, Try.ntmps53
    go_wp2_with fail
    refine (symbol_any _ n [] _ _ (PV_ext HV.out (ext_alloc (ext_refl _) _)) (by first | exact .inl rfl | exact .inr rfl)).mono ?_
    rintro e w1 ⟨rfl, hE1⟩
    have HE1 := Lib.hid (ext_trans (ext_alloc (ext_refl _) _) hE1)
    clear hE1
    go_wp2
    refine bodyPost_ret (results_tmp rfl _ _ _) rfl ?_
  · exact ⟨_, 1, [(n, false)], rfl, ⟨_, 1, rfl, Nat.le_refl _, fun _ => ⟨w1.heap.size, 0, rfl, by simp, fun i x hx => by
      cases i with
      | zero =>
        simp only [List.getElem?_cons_zero, Option.some.injEq] at hx
        subst hx
        exact ⟨block_cell (heap_alloc_new w1 _) 0, block_cell (heap_alloc_new w1 _) 1⟩
      | succ i => simp at hx⟩⟩, ⟨List.pairwise_singleton _ _, fun s => by rw [HSY.out]; rfl, by simp [sizeT, sizeL]⟩, ext_alloc HE1.out _⟩
  · exact ⟨_, 1, [(n, true)], rfl, ⟨_, 1, rfl, Nat.le_refl _, fun _ => ⟨w1.heap.size, 0, rfl, by simp, fun i x hx => by
      cases i with
      | zero =>
        simp only [List.getElem?_cons_zero, Option.some.injEq] at hx
        subst hx
        exact ⟨block_cell (heap_alloc_new w1 _) 0, block_cell (heap_alloc_new w1 _) 1⟩
      | succ i => simp at hx⟩⟩, ⟨List.pairwise_singleton _ _, fun s => by rw [HSY.out]; rfl, by simp [sizeT, sizeL]⟩, ext_alloc HE1.out _⟩
theorem sym_step {N : Nat} (hd : SymAt N) (hN1 : N ≤ 100000) : SymAt (N + 1) := by
  intro t v w hN hF hv
  cases t with
  | node k n ps =>
    by_cases hk : k = 0 ∨ k = 1
    · have hps : ps = [] := by
        rw [formB, if_pos hk, Bool.and_eq_true, decide_eq_true_eq] at hF
        exact hF.1
      subst hps
      exact sym_leaf k n v w hk hv
    · rw [sizeT] at hN
      have hlen := sizeL_len ps
      have hne := symT_ne _ hF
      have hfl : formL ps = true := by
        rw [formB, if_neg hk] at hF
        split at hF
        · rw [Bool.and_eq_true] at hF; exact hF.2
        · split at hF
          · rw [Bool.and_eq_true] at hF; exact hF.2
          · cases hF
      have hsy : symT (.node k n ps) = symL ps := by rw [symT, if_neg hk]
      rw [hsy] at hne
      have HSY := Lib.hid hsy
      have HNE := Lib.hid hne
      have HFL := Lib.hid hfl
      have k0 : (k == 0) = false := by rw [beq_eq_false_iff_ne]; omega
      have k1 : (k == 1) = false := by rw [beq_eq_false_iff_ne]; omega
      obtain ⟨s, rfl, hs⟩ := hv
      obtain ⟨A, c, rfl⟩ := PS_form hs
      have HD := Lib.hid hd
      have HS := Lib.hid hs
      clear hd hs hk hF hne hsy hfl
      go_enter Try.func53, Try.ntmps53
      go_wp2_with fail
      go_loopw [21, 3] (fun x y wr => ∃ (j : Nat) (M : List Sy) (B : Option Addr) (d : Nat), j ≤ ps.length ∧ x = .int .i64 (j : Int) ∧ y = .slice B M.length d ∧ rowF elY w.heap.size M (.slice B M.length d) wr ∧ (∀ s, s ∈ M ↔ s ∈ symL (ps.take j)) ∧ M.length ≤ sizeL (ps.take j) ∧ Ext w wr) (fun x _ _ => ps.length - (intOf x).toNat)
      case atStart => exact ⟨0, [], none, 0, Nat.zero_le _, rfl, rfl, rowF_nil _ _, by simp [symL], by simp, ext_alloc (ext_refl _) _⟩
      case round =>
        rename World => wr
        obtain ⟨j, M, B, d, hj, rfl, rfl, hrow, hmem, hml, hE⟩ := hrel
        have HROW := Lib.hid hrow
        have HMEM := Lib.hid hmem
        have HML := Lib.hid hml
        have HE := Lib.hid hE
        clear hrow hmem hml hE
        by_cases hlt : j < ps.length
        · have hji : (j : Int) < (ps.length : Int) := by omega
          have hj0 : (0 : Int) ≤ (j : Int) := by omega
          obtain ⟨q, hq⟩ : ∃ q, ps[j]? = some q := ⟨_, List.getElem?_eq_getElem hlt⟩
          have hqs := sizeL_mem (List.mem_of_getElem? hq)
          have HFQ := Lib.hid (formL_mem HFL.out (List.mem_of_getElem? hq))
          obtain ⟨g, o, hA, lg, hpt⟩ := PS_at (PS_ext HS.out HE.out) hq
          subst hA
          obtain ⟨⟨qk, qn, qs⟩, hpv, c0, c1, c2⟩ := PT_pv hpt
          obtain ⟨qA, qm, qc⟩ := qs
          simp only [slv] at c0 c1 c2
          have HPV := Lib.hid hpv
          have HQ := Lib.hid hq
          clear hpt hpv hq
          go_wp2_with fail
          refine (HD.out q _ _ (by omega) HFQ.out (PV_ext HPV.out (ext_alloc (ext_refl _) _))).mono ?_
          rintro e w1 ⟨A1, d1, L1, rfl, hrd, hso, hE1⟩
          have hE1' := ext_trans (ext_alloc (ext_refl wr) _) hE1
          have HRD := Lib.hid hrd
          have HSO := Lib.hid hso
          have HE1 := Lib.hid hE1'
          have hl1 := hso.len
          have hml2 := HML.out
          have hst := sizeL_takeAdd HQ.out
          clear hrd hso hE1 hE1' c0 c1 c2
          go_wp2_with (at_builtin; refine halt_here ?_)
          refine go_on ?_
          refine wpList_append rfl (.tmp 25) (.tmp 27) rfl _ _ rfl rfl (fun v' w' => rowF elY w.heap.size (M ++ L1) v' w' ∧ w1.grownBy w' (Value.slice B M.length d).ownBlock) (append_onto tpY _ w.heap.size (.slice B M.length d) _ M L1 w1 (rowF_ext _ _ _ HE1.out HROW.out) (srcOf_rdY HRD.out) (by omega) (Nat.le_trans (ext_size HE.out) (ext_size HE1.out))) ?_
          rintro v2 w2 ⟨hr2, hg2⟩
          obtain ⟨B2, d2, hv2⟩ := rowE_form hr2.1
          subst hv2
          have HR2 := Lib.hid hr2
          have HE2 := Lib.hid (ext_grown (ext_trans HE.out HE1.out) hg2 (fun b hb => HROW.out.2 b hb) (Nat.le_refl _))
          clear hr2 hg2
          go_wp2
          go_roundw
          case rel => exact ⟨j + 1, M ++ L1, B2, d2, by omega, by go_num, by rw [List.length_append], HR2.out, fun s => by rw [List.mem_append, HMEM.out, HSO.out.mem, symL_take HQ.out, List.mem_append], by rw [List.length_append, sizeL_take HQ.out]; omega, HE2.out⟩
          case measure => simp [intOf]; omega
        · obtain rfl : j = ps.length := by omega
          rw [List.take_length] at HMEM HML
          have hml3 := HML.out
          have HMN : Hid (M ≠ []) := Lib.hid (fun e => HNE.out (List.eq_nil_iff_forall_not_mem.2 (fun s hs => by have := (HMEM.out s).2 hs; rw [e] at this; cases this)))
          have hsto : ∀ (a : Addr) (m : Mode) (w : World), Sem.run Try.prog (store a (.func (.func 81) #[] #[]) m) w = stored Try.prog w a (.func (.func 81) #[] #[]) m := fun a m w => run_store Try.prog w a _ m rfl
          go_wp2_with fail
          clear hsto
          have hEb := ext_alloc (ext_refl wr) (.cells #[.func (.func 81) #[] #[]] 142)
          refine (sortF_any w.heap.size _ M wr.heap.size _ (heap_alloc_new wr _) (rowF_ext _ _ _ hEb HROW.out) HMN.out (by omega)).mono ?_
          rintro e w2 ⟨rfl, M2, hpm, hst, hr2, hu2⟩
          have HE2 := Lib.hid (ext_updL (ext_trans HE.out hEb) hu2 (fun b hb => HROW.out.2 b hb))
          have HR2 := Lib.hid hr2
          have hl2 : M2.length = M.length := hpm.length_eq
          have HL2 := Lib.hid hl2
          have HPM := Lib.hid hpm
          have HST := Lib.hid hst
          clear hr2 hu2 hpm hst hl2 hEb
          go_wp2_with fail
          refine (compact_any w.heap.size _ M2 w2 HR2.out (by rw [HL2.out]; omega)).mono ?_
          rintro e w3 ⟨v3, rfl, hrd, ⟨A3, c3, rfl⟩, -, hu3⟩
          obtain ⟨h1, h2⟩ := cpt_spec HST.out
          have HRD := Lib.hid hrd
          have HX3 := Lib.hid (ext_updL HE2.out hu3 (fun b hb => HROW.out.2 b hb))
          have HSO : Hid (SymsOf (.node k n ps) (cpt M2)) := Lib.hid ⟨h2, fun s => by rw [h1, HPM.out.mem_iff, HMEM.out, HSY.out], by
            have h3 := cpt_len M2
            have h4 := HL2.out
            rw [sizeT]
            omega⟩
          clear hrd hu3 h1 h2
          go_wp2
          refine bodyPost_ret (results_tmp rfl _ _ _) rfl ?_
          exact ⟨A3, c3, cpt M2, rfl, HRD.out, HSO.out, HX3.out⟩
theorem sym_all : ∀ N : Nat, N ≤ 100000 → SymAt N
  | 0, _ => fun t v w hN => by have := sizeT_pos t; omega
  | N + 1, h => sym_step (sym_all N (by omega)) (by omega)
end Go.Proofs.Ytiabmdboacpmcaa
