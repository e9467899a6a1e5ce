/- Value; a row put behind a table's rows; Of. -/
import Derived.Maps.AppendAt
import Derived.Test.YtniggdaakiofeaaDoorSd
import Derived.Test.YtniggdaakiofeaaDoorSc
namespace Go.Proofs.YtniggdaakiofeaaDoor
open Go Go.RowKit Go.Sort
set_option maxHeartbeats 4000000

theorem value_any (tv rowv : Value) (V : List ByteArray) (R : List (List Int)) (row : List Int) (x : ByteArray) (w : World) (h : TabV w tv V R) (hr : RdI w rowv row) (hV : RiseS V) (hm : V.length ≤ 1000000) (hl : row.length = V.length) :
    Calls Tryd.prog 47 #[tv, rowv, .string x] w fun e w' => e = .returned (.int .i64 (valN V row x)) ∧ Ext w w' := by
  have HB := fun w' (hE : Ext w w') => Lib.hid (place_any tv V R x w' (tabV_ext h hE) hV hm)
  have HB2 := Lib.hid HB
  obtain ⟨vv, rv, rfl, h1, h2⟩ := h
  obtain ⟨A, c, rfl⟩ := rdS_form h1
  obtain ⟨B, d, rfl⟩ := rdW_form h2
  obtain ⟨C, k, rfl⟩ := rdI_form hr
  clear HB h1 h2 hV
  by_cases hh : idxS V x < V.length
  · have hx : row[idxS V x]? = some (valN V row x) := by
      unfold valN
      rw [if_pos hh, List.getD_eq_getElem?_getD, List.getElem?_eq_getElem (by omega)]; rfl
    obtain ⟨b, off, rfl, hb, hcell⟩ := rdI_at hr hx
    rw [if_pos hh] at HB2
    rw [← hl] at hh hm
    obtain ⟨p, hp⟩ : ∃ p, p = idxS V x := ⟨_, rfl⟩
    obtain ⟨y, hy⟩ : ∃ y, y = valN V row x := ⟨_, rfl⟩
    rw [← hp] at hh hcell HB2
    rw [← hy] at hcell ⊢
    have hp1 : (p : Int) < (row.length : Int) := by omega
    have hp0 : (0 : Int) ≤ (p : Int) := by omega
    have HC := Lib.hid hcell
    clear hp hy hx hl hr hcell
    go_enter Tryd.func47, Tryd.ntmps47
    go_wp2_with (go_at_call 79; refine (HB2.out _ (ext_alloc (ext_refl _) _)).out.mono ?_; rintro e w1 ⟨rfl, hE1⟩; have HE1 := Lib.hid (ext_trans (ext_alloc (ext_refl _) _) hE1); have q0 := (ext_cell HE1.out _ _ hb).trans HC.out; have lb := ext_lt HE1.out hb; clear hE1)
    refine bodyPost_ret (results_tmp rfl _ _ _) rfl ?_
    exact ⟨rfl, HE1.out⟩
  · have hx : valN V row x = -1 := by unfold valN; rw [if_neg hh]
    rw [if_neg hh] at HB2
    rw [hx]
    clear hx hh hr hl
    go_enter Tryd.func47, Tryd.ntmps47
    go_wp2_with (go_at_call 79; refine (HB2.out _ (ext_alloc (ext_refl _) _)).out.mono ?_; rintro e w1 ⟨rfl, hE1⟩; have HE1 := Lib.hid (ext_trans (ext_alloc (ext_refl _) _) hE1); clear hE1)
    refine bodyPost_ret (results_tmp rfl _ _ _) rfl ?_
    exact ⟨rfl, HE1.out⟩

theorem append_at {P : Program} {α : Type} {E : El α} {t : TypeId} (T : Tp P t E) (ty : TypeId) (H : Nat) (v xv : Value) (L M : List α) (w : World) (hv : rowF E H L v w) (hx : SrcOf E w xv M) (hm : L.length + M.length ≤ 1000000000) (hH : H ≤ w.heap.size) :
    ∃ v' w', (Builtin.append_ #[t, t] ty #[v, xv]).run P w = .ok v' w' ∧ rowF E H (L ++ M) v' w' ∧ w.grownBy w' v.ownBlock ∧ (v'.ownBlock = v.ownBlock ∨ v'.ownBlock = some w.heap.size) := by
  have hbb : (L.length + M.length) * T.bytes ≤ 140737488355328 := Nat.le_trans (Nat.mul_le_mul hm T.hb) (by decide)
  have hml : L.length + M.length ≤ maxLen := by unfold maxLen; omega
  cases M with
  | nil =>
    obtain ⟨B, c, rfl, _⟩ := hx
    obtain ⟨A, c1, hv1⟩ := rowE_form hv.1
    subst hv1
    refine ⟨_, _, append_none T ty A L.length c1 (rowE_cap hv.1).2 w B c, by rw [List.append_nil]; exact hv, World.grownBy.refl w _, .inl rfl⟩
  | cons x M =>
    obtain ⟨B, c, rfl, hB⟩ := hx
    obtain ⟨ad, rfl, hn⟩ := hB (by simp)
    have hown : w.ownsRow H E.ty E.size v L.length (flatE E L) := by
      refine ⟨hv.1.1, ?_⟩
      rcases hv.1.2 with h | ⟨g, cap, cur, h1, _, h3⟩
      · exact .inl h
      · exact .inr ⟨g, cap, cur, h1, hv.2 g (by rw [h1]; rfl), h3⟩
    obtain ⟨v', w', hrun, hown', hgr, _, hat⟩ := run_append_own_at (P := P) w H t ty E.ty T.i T.z E.size T.bytes T.hu T.hi T.hz T.hsz T.hby T.hzc E.hs v L.length (flatE E L) hown ad (x :: M).length c (flatE E (x :: M)) (flatE_length E _) hn (flatE_one E _) hml hbb hH
    exact ⟨v', w', hrun, row_base hown' (by simp) (by rw [flatE_append]) (Nat.le_refl _), hgr, hat⟩

/-- a row that is owned: where its block may be -/
def rowG {α : Type} (E : El α) (ok : Nat → Prop) (L : List α) (v : Value) (w : World) : Prop := rowE E w v L ∧ ∀ g, v.ownBlock = some g → ok g
theorem rowG_ext {α : Type} {E : El α} {ok : Nat → Prop} {L : List α} (v : Value) (w w' : World) (hE : Ext w w') (h : rowG E ok L v w) : rowG E ok L v w' := ⟨rowE_ext h.1 hE, h.2⟩
theorem rowG_mono {α : Type} {E : El α} {ok ok' : Nat → Prop} {L : List α} {v : Value} {w : World} (h : rowG E ok L v w) (hh : ∀ g, ok g → ok' g) : rowG E ok' L v w := ⟨h.1, fun g hg => hh g (h.2 g hg)⟩
theorem append_ok {P : Program} {α : Type} {E : El α} {t : TypeId} (T : Tp P t E) (ty : TypeId) (ok : Nat → Prop) (v xv : Value) (L M : List α) (w : World) (hv : rowG E ok L v w) (hx : SrcOf E w xv M) (hm : L.length + M.length ≤ 1000000000) (hok : ∀ b, w.heap.size ≤ b → ok b) :
    ∃ v' w', (Builtin.append_ #[t, t] ty #[v, xv]).run P w = .ok v' w' ∧ rowG E ok (L ++ M) v' w' ∧ w.grownBy w' v.ownBlock := by
  obtain ⟨v', w', h1, h2, h3, h4⟩ := append_at T ty 0 v xv L M w ⟨hv.1, fun _ _ => Nat.zero_le _⟩ hx hm (Nat.zero_le _)
  refine ⟨v', w', h1, ⟨h2.1, fun g hg => ?_⟩, h3⟩
  rcases h4 with h | h
  · exact hv.2 g (by rw [← h]; exact hg)
  · rw [h] at hg
    cases hg
    exact hok _ (Nat.le_refl _)

/-- what a callback tells of each var -/
def IsOf (w : World) (g : Nat) (lb : Array Value) (V : List ByteArray) (gf : ByteArray → Int) : Prop :=
  ∀ w1, Ext w w1 → ∀ v ∈ V, Calls Tryd.prog g (#[.string v] ++ lb) w1 fun e w2 => e = .returned (.int .i64 (gf v)) ∧ Ext w1 w2
/-- a table that is being built, at a place -/
def TabB (H : Nat) (w : World) (p : Nat) (V : List ByteArray) (R : List (List Int)) : Prop :=
  ∃ vv rv, w.heap[p]? = some (.cells #[vv, rv] 31 (0, 0)) ∧ Own H w vv rv V R
theorem tabB_ext {H : Nat} {w w' : World} {p : Nat} {V : List ByteArray} {R : List (List Int)} (h : TabB H w p V R) (hE : Ext w w') : TabB H w' p V R := by
  obtain ⟨vv, rv, h1, h2⟩ := h
  exact ⟨vv, rv, (ext_block hE (block_lt h1)).trans h1, own_ext h2 hE⟩
theorem rowF_upd {α : Type} {E : El α} {H : Nat} {L : List α} {v : Value} {fp : Nat → Prop} {w w' : World} (h : rowF E H L v w) (hU : Upd fp w w') (hfp : ∀ b, fp b → b < H) : rowF E H L v w' :=
  ⟨rowE_upd h.1 hU (fun b hb hf => by have := h.2 b hb; have := hfp b hf; omega), h.2⟩
theorem own_upd {H : Nat} {fp : Nat → Prop} {w w' : World} {vv rv : Value} {V : List ByteArray} {R : List (List Int)} (h : Own H w vv rv V R) (hU : Upd fp w w') (hfp : ∀ b, fp b → b < H) : Own H w' vv rv V R := by
  obtain ⟨h1, sl, h2, h3, h4⟩ := h
  exact ⟨rowF_upd h1 hU hfp, sl, rowF_upd h2 hU hfp, h3, fun i s x hs hx => rowF_upd (h4 i s x hs hx) hU hfp⟩
/-- the same, the block of the row of rows among some -/
def OwnK (ok : Nat → Prop) (H : Nat) (w : World) (vv rv : Value) (V : List ByteArray) (R : List (List Int)) : Prop :=
  rowF elS H V vv w ∧ ∃ sl : List Sl, rowG elW ok sl rv w ∧ sl.length = R.length ∧ ∀ (i : Nat) (s : Sl) (x : List Int), sl[i]? = some s → R[i]? = some x → rowF elI H x (slV s) w
theorem ownK_own {ok : Nat → Prop} {H : Nat} {w : World} {vv rv : Value} {V : List ByteArray} {R : List (List Int)} (h : OwnK ok H w vv rv V R) (hok : ∀ b, ok b → H ≤ b) : Own H w vv rv V R := by
  obtain ⟨h1, sl, h2, h3, h4⟩ := h
  exact ⟨h1, sl, ⟨h2.1, fun g hg => hok g (h2.2 g hg)⟩, h3, h4⟩
theorem ownK_ext {ok : Nat → Prop} {H : Nat} {w w' : World} {vv rv : Value} {V : List ByteArray} {R : List (List Int)} (h : OwnK ok H w vv rv V R) (hE : Ext w w') : OwnK ok H w' vv rv V R := by
  obtain ⟨h1, sl, h2, h3, h4⟩ := h
  exact ⟨rowF_ext _ _ _ hE h1, sl, rowG_ext _ _ _ hE h2, h3, fun i s x hs hx => rowF_ext _ _ _ hE (h4 i s x hs hx)⟩
def TabK (ok : Nat → Prop) (H : Nat) (w : World) (p : Nat) (V : List ByteArray) (R : List (List Int)) : Prop :=
  ∃ vv rv, w.heap[p]? = some (.cells #[vv, rv] 31 (0, 0)) ∧ OwnK ok H w vv rv V R
theorem tabK_ext {ok : Nat → Prop} {H : Nat} {w w' : World} {p : Nat} {V : List ByteArray} {R : List (List Int)} (h : TabK ok H w p V R) (hE : Ext w w') : TabK ok H w' p V R := by
  obtain ⟨vv, rv, h1, h2⟩ := h
  exact ⟨vv, rv, (ext_block hE (block_lt h1)).trans h1, ownK_ext h2 hE⟩
/-- a table whose row of rows has got one more -/
theorem own_moreK {ok : Nat → Prop} {H : Nat} {fp : Nat → Prop} {w w' : World} {vv rv' : Value} {V : List ByteArray} {R : List (List Int)} {sl : List Sl} {s : Sl} {x : List Int}
    (h1 : rowF elS H V vv w) (h2 : rowG elW ok (sl ++ [s]) rv' w') (h3 : sl.length = R.length) (h4 : ∀ (i : Nat) (s : Sl) (x : List Int), sl[i]? = some s → R[i]? = some x → rowF elI H x (slV s) w) (h5 : rowF elI H x (slV s) w)
    (hU : Upd fp w w') (hfp : ∀ b, fp b → ∀ cur t, w.heap[b]? = some (.cells cur t (0, 0)) → t ≠ 9 ∧ t ≠ 3) : OwnK ok H w' vv rv' V (R ++ [x]) := by
  have keepI : ∀ (x : List Int) (u : Value), rowF elI H x u w → rowF elI H x u w' := fun x u h => ⟨rowE_upd h.1 hU (fun b hb hf => by
    obtain ⟨_, cur, hc⟩ := rowE_block h.1 hb
    exact (hfp b hf cur _ hc).2 rfl), h.2⟩
  refine ⟨⟨rowE_upd h1.1 hU (fun b hb hf => ?_), h1.2⟩, sl ++ [s], h2, by simp [h3], fun i s' x' hs hx => ?_⟩
  · obtain ⟨_, cur, hc⟩ := rowE_block h1.1 hb
    exact (hfp b hf cur _ hc).1 rfl
  · rcases Nat.lt_or_ge i sl.length with hi | hi
    · rw [List.getElem?_append_left hi] at hs
      rw [List.getElem?_append_left (by omega)] at hx
      exact keepI _ _ (h4 i s' x' hs hx)
    · rw [List.getElem?_append_right hi] at hs
      rw [List.getElem?_append_right (by omega)] at hx
      have hi0 : i - sl.length = 0 := by
        have := (List.getElem?_eq_some_iff.1 hs).1
        simp at this; omega
      rw [hi0] at hs
      rw [← h3, hi0] at hx
      simp at hs hx
      subst hs hx
      exact keepI _ _ h5
theorem own_more {H : Nat} {fp : Nat → Prop} {w w' : World} {vv rv' : Value} {V : List ByteArray} {R : List (List Int)} {sl : List Sl} {s : Sl} {x : List Int}
    (h1 : rowF elS H V vv w) (h2 : rowF elW H (sl ++ [s]) rv' w') (h3 : sl.length = R.length) (h4 : ∀ (i : Nat) (s : Sl) (x : List Int), sl[i]? = some s → R[i]? = some x → rowF elI H x (slV s) w) (h5 : rowF elI H x (slV s) w)
    (hU : Upd fp w w') (hfp : ∀ b, fp b → ∀ cur t, w.heap[b]? = some (.cells cur t (0, 0)) → t ≠ 9 ∧ t ≠ 3) : Own H w' vv rv' V (R ++ [x]) := own_moreK (ok := fun b => H ≤ b) h1 h2 h3 h4 h5 hU hfp
end Go.Proofs.YtniggdaakiofeaaDoor
