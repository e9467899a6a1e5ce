/- A machine as it lies in memory; state, free, symbol. -/
import Derived.WalkKit
import Derived.KernelRfl
import Derived.TacticsInMore
import Derived.Deep.DeepCutAuto
import Derived.Shelf.Abstract
import Derived.Maps.AppendAt
import Derived.Test.YtiabmdboacpmcaaPb
import Derived.Test.YtiabmdboacpmcaaGu
namespace Go.Proofs.Ytiabmdboacpmcaa
open Go Go.RowKit Go.Sort
set_option maxHeartbeats 800000

abbrev SlV := Option Addr × Nat × Nat
def slv (x : SlV) : Value := .slice x.1 x.2.1 x.2.2
abbrev Mo := Option Sy × Nat
def encM (m : Mo) : List Value := match m.1 with
  | none => [.int .i64 0, .bool false, .bool true, .int .i64 m.2]
  | some s => [.int .i64 s.1, .bool s.2, .bool false, .int .i64 m.2]
def elV : El SlV := ⟨fun x => [slv x], 1, 112, by decide, fun _ => rfl, fun x u hu => by rw [List.mem_singleton.1 hu]; rfl⟩
def elM : El Mo := ⟨encM, 4, 114, by decide, fun x => by unfold encM; split <;> rfl, fun x u hu => by
  unfold encM at hu
  split at hu <;> (simp only [List.mem_cons, List.not_mem_nil, or_false] at hu; rcases hu with rfl | rfl | rfl | rfl <;> rfl)⟩
noncomputable def tpV : Tp Try.prog 104 elV := ⟨(Try.prog.info? 112).get (by kernel_rfl), .slice none 0 0, 24, Try.underlying104, by kernel_rfl, by kernel_rfl, by kernel_rfl, by kernel_rfl, rfl, by decide⟩
noncomputable def tpM : Tp Try.prog 112 elM := ⟨(Try.prog.info? 114).get (by kernel_rfl), .agg #[.int .i64 0, .bool false, .bool false, .int .i64 0], 32, Try.underlying112, by kernel_rfl, by kernel_rfl, by kernel_rfl, by kernel_rfl, rfl, by decide⟩

/-- a machine, made behind W -/
def MachAt (W w : World) (p : Nat) (Ms : List (List Mo)) (bg en : Int) : Prop :=
  W.heap.size ≤ p ∧ ∃ (A : Option Addr) (c : Nat) (Vs : List SlV), w.heap[p]? = some (.cells #[.slice A Vs.length c, .int .i64 bg, .int .i64 en] 106 (0, 0)) ∧ rowF elV W.heap.size Vs (.slice A Vs.length c) w ∧ Vs.length = Ms.length ∧
    (∀ (i : Nat) (x : SlV) (l : List Mo), Vs[i]? = some x → Ms[i]? = some l → rowF elM W.heap.size l (slv x) w) ∧
    (∀ (i j : Nat) (x y : SlV) (b : Nat), i ≠ j → Vs[i]? = some x → Vs[j]? = some y → (slv x).ownBlock = some b → (slv y).ownBlock ≠ some b)
theorem machAt_ext {W w w' : World} {p : Nat} {Ms : List (List Mo)} {bg en : Int} (h : MachAt W w p Ms bg en) (hE : Ext w w') : MachAt W w' p Ms bg en := by
  obtain ⟨h0, A, c, Vs, h1, h2, h3, h4, h5⟩ := h
  exact ⟨h0, A, c, Vs, (ext_block hE (block_lt h1)).trans h1, rowF_ext _ _ _ hE h2, h3, fun i x l hx hl => rowF_ext _ _ _ hE (h4 i x l hx hl), h5⟩
theorem rowF_upd {α : Type} {E : El α} {H : Nat} {L : List α} {v : Value} {fp : Nat → Prop} {w w' : World} (h : rowF E H L v w) (hu : Upd fp w w') (hn : ∀ b, v.ownBlock = some b → ¬ fp b) : rowF E H L v w' := ⟨rowE_upd h.1 hu hn, h.2⟩
theorem el_apart {α β : Type} {E : El α} {F : El β} {L : List α} {M : List β} {w : World} {u v : Value} (h : rowE E w u L) (k : rowE F w v M) (hne : E.ty ≠ F.ty) {b : Nat} (hu : u.ownBlock = some b) : v.ownBlock ≠ some b := fun hv => by
  obtain ⟨_, cur, h1⟩ := rowE_block h hu
  obtain ⟨_, cur', h2⟩ := rowE_block k hv
  rw [h1] at h2
  simp only [Option.some.injEq, Obj.cells.injEq] at h2
  exact hne h2.2.1

/-- append to a row that is owned: where the new row lies -/
theorem append_at {P : Program} {α : Type} {E : El α} {t : TypeId} (T : Tp P t E) (ty : TypeId) (H : Nat) (v xv : Value) (L M : List α) (w : World) (hv : rowF E H L v w) (hx : SrcOf E w xv M) (hm : L.length + M.length ≤ 1000000000) (hH : H ≤ w.heap.size) :
    ∃ v' w', (Builtin.append_ #[t, t] ty #[v, xv]).run P w = .ok v' w' ∧ rowF E H (L ++ M) v' w' ∧ w.grownBy w' v.ownBlock ∧ (v'.ownBlock = v.ownBlock ∨ v'.ownBlock = some w.heap.size) := by
  have hbb : (L.length + M.length) * T.bytes ≤ 140737488355328 := Nat.le_trans (Nat.mul_le_mul hm T.hb) (by decide)
  have hml : L.length + M.length ≤ maxLen := by unfold maxLen; omega
  cases M with
  | nil =>
    obtain ⟨B, c, rfl, _⟩ := hx
    obtain ⟨A, c1, hv1⟩ := rowE_form hv.1
    subst hv1
    refine ⟨_, _, append_none T ty A L.length c1 (rowE_cap hv.1).2 w B c, by rw [List.append_nil]; exact hv, World.grownBy.refl w _, .inl rfl⟩
  | cons x M =>
    obtain ⟨B, c, rfl, hB⟩ := hx
    obtain ⟨ad, rfl, hn⟩ := hB (by simp)
    have hown : w.ownsRow H E.ty E.size v L.length (flatE E L) := by
      refine ⟨hv.1.1, ?_⟩
      rcases hv.1.2 with h | ⟨g, cap, cur, h1, _, h3⟩
      · exact .inl h
      · exact .inr ⟨g, cap, cur, h1, hv.2 g (by rw [h1]; rfl), h3⟩
    obtain ⟨v', w', hrun, hown', hgr, _, hat⟩ := run_append_own_at (P := P) w H t ty E.ty T.i T.z E.size T.bytes T.hu T.hi T.hz T.hsz T.hby T.hzc E.hs v L.length (flatE E L) hown ad (x :: M).length c (flatE E (x :: M)) (flatE_length E _) hn (flatE_one E _) hml hbb hH
    exact ⟨v', w', hrun, row_base hown' (by simp) (by rw [flatE_append]) (Nat.le_refl _), hgr, hat⟩
theorem upd_off {α : Type} {E : El α} {H : Nat} {L : List α} {v : Value} {w : World} {p o : Nat} {u : Value} {cs : Array Value} {t : TypeId} (h : rowF E H L v w) (hp : w.heap[p]? = some (.cells cs t (0, 0))) (hne : t ≠ E.ty) : rowF E H L v (w.setCell ⟨p, o, none⟩ u) :=
  rowF_upd h (upd_setCell _) (fun b hb e => rowE_off h.1 hp hne (hb.trans (by rw [e])))
/-- blocks as a machine has them -/
def MT (w : World) (b : Nat) : Prop := ∃ cs t fr, w.heap[b]? = some (.cells cs t fr) ∧ (t = 106 ∨ t = 112 ∨ t = 114)
theorem mt_trans {a b c : World} (h : Upd (MT a) a b) (k : Upd (MT b) b c) : Upd (MT a) a c :=
  upd_trans h k (fun i hi hm => Classical.byContradiction fun hn => by
    obtain ⟨cs, t, fr, h1, h2⟩ := hm
    rw [h.block i hi hn] at h1
    exact hn ⟨cs, t, fr, h1, h2⟩)
theorem mt_ext {a b : World} (h : Ext a b) : Upd (MT a) a b := upd_of_ext h
theorem mt_grown {α : Type} {E : El α} {L : List α} {v : Value} {fp : Nat → Prop} {w w' : World} (h : rowE E w v L) (hu : Upd fp w w') (hf : ∀ b, fp b → v.ownBlock = some b) (ht : E.ty = 106 ∨ E.ty = 112 ∨ E.ty = 114) : Upd (MT w) w w' :=
  upd_mono hu (fun b _ hb => by
    obtain ⟨_, cur, h1⟩ := rowE_block h (hf b hb)
    exact ⟨_, _, _, h1, ht⟩)
theorem mt_set {w : World} {p o : Nat} {u : Value} {cs : Array Value} {t : TypeId} (hp : w.heap[p]? = some (.cells cs t (0, 0))) (ht : t = 106 ∨ t = 112 ∨ t = 114) : Upd (MT w) w (w.setCell ⟨p, o, none⟩ u) :=
  upd_mono (upd_setCell _) (fun b _ hb => by
    obtain rfl : b = p := hb
    exact ⟨_, _, _, hp, ht⟩)
/-- what is kept by what turns a machine -/
theorem mt_block {w w' : World} {b : Nat} {cs : Array Value} {t : TypeId} (h : Upd (MT w) w w') (hb : w.heap[b]? = some (.cells cs t (0, 0))) (ht : t ≠ 106 ∧ t ≠ 112 ∧ t ≠ 114) : w'.heap[b]? = some (.cells cs t (0, 0)) :=
  (h.block b (block_lt hb) (fun ⟨cs', t', fr, h1, h2⟩ => by
    rw [hb] at h1
    simp only [Option.some.injEq, Obj.cells.injEq] at h1
    obtain ⟨-, rfl, -⟩ := h1
    rcases h2 with h | h | h
    · exact ht.1 h
    · exact ht.2.1 h
    · exact ht.2.2 h)).trans hb
theorem state_any (W w : World) (p : Nat) (Ms : List (List Mo)) (bg en : Int) (h : MachAt W w p Ms bg en) (hW : Ext W w) (hl : Ms.length ≤ 100000) :
    Calls Try.prog 58 #[.pointer (some ⟨p, 0, none⟩)] w fun e w' => e = .returned (.int .i64 Ms.length) ∧ MachAt W w' p (Ms ++ [[]]) bg en ∧ Ext W w' ∧ Upd (MT w) w w' := by
  obtain ⟨hp, A, c, Vs, h1, h2, h3, h4, h5⟩ := h
  have q0 : w.cell? ⟨p, 0, none⟩ = some (.slice A Vs.length c) := block_cell h1 0
  have qf := block_frozen h1 0
  have lp := block_lt h1
  have H1 := Lib.hid h1
  have H2 := Lib.hid h2
  have H3 := Lib.hid h3
  have H4 := Lib.hid h4
  have H5 := Lib.hid h5
  have hvl : Vs.length ≤ 100000 := by omega
  have HW := Lib.hid hW
  clear h1 h2 h3 h4 h5 hW
  go_enter Try.func58, Try.ntmps58
  go_wp2_with (at_builtin; refine halt_here ?_)
  refine go_on ?_
  refine wpList_append rfl (.tmp 7) (.tmp 8) rfl _ _ rfl rfl (fun v' w' => rowF elV W.heap.size (Vs ++ [(none, 0, 0)]) v' w' ∧ (w.alloc (.cells #[.slice none 0 0] 112)).grownBy w' (Value.slice A Vs.length c).ownBlock) (append_onto tpV _ W.heap.size (.slice A Vs.length c) _ Vs [(none, 0, 0)] _ (rowF_ext _ _ _ (ext_alloc (ext_refl _) _) H2.out) (srcOf_one ⟨w.heap.size, rfl, Nat.le_refl _, heap_alloc_new w _⟩) (by simp; omega) (by rw [World.size_alloc]; have := ext_size HW.out; omega)) ?_
  rintro v1 w1 ⟨hr, hg⟩
  obtain ⟨A1, c1, hv1⟩ := rowE_form hr.1
  rw [List.length_append] at hv1
  simp only [List.length_cons, List.length_nil, Nat.zero_add] at hv1
  subst hv1
  have hE0 := ext_alloc (ext_refl w) (.cells #[.slice none 0 0] 112)
  have hne : (Value.slice A Vs.length c).ownBlock ≠ some p := rowE_off H2.out.1 H1.out (by decide)
  have hp1 : w1.heap[p]? = some (.cells #[.slice A Vs.length c, .int .i64 bg, .int .i64 en] 106 (0, 0)) := ((upd_grown hg).block p (ext_lt hE0 lp) hne).trans ((ext_block hE0 lp).trans H1.out)
  have HP1 := Lib.hid hp1
  have HR := Lib.hid hr
  have HG := Lib.hid hg
  have HMT := Lib.hid (mt_trans (mt_ext hE0) (mt_grown (rowF_ext _ _ _ hE0 H2.out).1 (upd_grown hg) (fun b h => h) (.inr (.inl rfl))))
  have HEW := Lib.hid (show Ext W w1 from ext_grown (ext_trans HW.out hE0) hg H2.out.2 (Nat.le_refl _))
  have HE0 := Lib.hid hE0
  clear hr hg hp1 hE0 q0 qf hne
  have q0 := block_cell HP1.out 0
  have qf := block_frozen HP1.out 0
  have lp1 := block_lt HP1.out
  simp at q0
  go_wp2
  refine bodyPost_ret (results_tmp rfl _ _ _) rfl ?_
  refine ⟨by rw [← H3.out]; simp, ⟨hp, A1, c1, Vs ++ [(none, 0, 0)], ?_, upd_off (by simpa using HR.out) HP1.out (by decide), by rw [List.length_append, List.length_append, H3.out]; rfl, fun i x l hx hl => ?_, fun i j x y b hij hx hy hb => ?_⟩, ext_set HEW.out hp _, mt_trans HMT.out (mt_set HP1.out (.inl rfl))⟩
  · rw [heap_setCell_at HP1.out]
    simp
  · rcases Nat.lt_or_ge i Vs.length with hi | hi
    · rw [List.getElem?_append_left hi] at hx
      rw [List.getElem?_append_left (by rw [← H3.out]; exact hi)] at hl
      have h0 := rowF_ext _ _ _ HE0.out (H4.out i x l hx hl)
      exact upd_off (rowF_upd h0 (upd_grown HG.out) (fun b hb e => el_apart h0.1 (rowF_ext _ _ _ HE0.out H2.out).1 (by decide) hb e)) HP1.out (by decide)
    · have hi2 : i = Vs.length := by
        have := (List.getElem?_eq_some_iff.1 hx).1
        simp at this
        omega
      rw [List.getElem?_append_right hi, hi2] at hx
      rw [List.getElem?_append_right (by rw [← H3.out]; exact hi), hi2, H3.out] at hl
      simp at hx hl
      subst hx hl
      exact rowF_nil _ _
  · rcases Nat.lt_or_ge i Vs.length with hi | hi
    · rcases Nat.lt_or_ge j Vs.length with hj | hj
      · rw [List.getElem?_append_left hi] at hx
        rw [List.getElem?_append_left hj] at hy
        exact H5.out i j x y b hij hx hy hb
      · have hj2 : j = Vs.length := by
          have := (List.getElem?_eq_some_iff.1 hy).1
          simp at this
          omega
        rw [List.getElem?_append_right hj, hj2] at hy
        simp at hy
        subst hy
        intro h; cases h
    · have hi2 : i = Vs.length := by
        have := (List.getElem?_eq_some_iff.1 hx).1
        simp at this
        omega
      rw [List.getElem?_append_right hi, hi2] at hx
      simp at hx
      subst hx
      cases hb
def addM (Ms : List (List Mo)) (s : Nat) (mv : Mo) : List (List Mo) := Ms.modify s (· ++ [mv])
theorem addM_len (Ms : List (List Mo)) (s : Nat) (mv : Mo) : (addM Ms s mv).length = Ms.length := by simp [addM]
theorem addM_at {Ms : List (List Mo)} {s i : Nat} {mv : Mo} {l : List Mo} (h : (addM Ms s mv)[i]? = some l) : ∃ l0, Ms[i]? = some l0 ∧ l = if i = s then l0 ++ [mv] else l0 := by
  rw [addM, List.getElem?_modify] at h
  obtain ⟨l0, h1, h2⟩ := Option.map_eq_some_iff.1 h
  refine ⟨l0, h1, ?_⟩
  by_cases e : i = s
  · subst e; simp at h2 ⊢; exact h2.symm
  · rw [if_neg e]
    rw [if_neg (fun h => e h.symm)] at h2
    exact h2.symm
/-- what is there when a row has grown, and its new place is laid down -/
theorem mach_add {W w w1 : World} {p : Nat} {Ms : List (List Mo)} {bg en : Int} {A : Option Addr} {c s g : Nat} {Vs : List SlV} {x : SlV} {l : List Mo} {mv : Mo} {A1 : Option Addr} {n1 c1 : Nat}
    (hp : W.heap.size ≤ p) (h1 : w.heap[p]? = some (.cells #[.slice A Vs.length c, .int .i64 bg, .int .i64 en] 106 (0, 0))) (h2 : rowF elV W.heap.size Vs (.slice A Vs.length c) w) (h3 : Vs.length = Ms.length)
    (h4 : ∀ (i : Nat) (x : SlV) (l : List Mo), Vs[i]? = some x → Ms[i]? = some l → rowF elM W.heap.size l (slv x) w)
    (h5 : ∀ (i j : Nat) (x y : SlV) (b : Nat), i ≠ j → Vs[i]? = some x → Vs[j]? = some y → (slv x).ownBlock = some b → (slv y).ownBlock ≠ some b)
    (hA : A = some ⟨g, 0, none⟩) (hx : Vs[s]? = some x) (hl : Ms[s]? = some l) (hu : Upd (fun b => (slv x).ownBlock = some b) w w1) (hr : rowF elM W.heap.size (l ++ [mv]) (.slice A1 n1 c1) w1)
    (hat : (Value.slice A1 n1 c1).ownBlock = (slv x).ownBlock ∨ ∀ b, (Value.slice A1 n1 c1).ownBlock = some b → w.heap.size ≤ b) (hW : Ext W w) :
    MachAt W (w1.setCell ⟨g, s, none⟩ (.slice A1 n1 c1)) p (addM Ms s mv) bg en ∧ Ext W (w1.setCell ⟨g, s, none⟩ (.slice A1 n1 c1)) ∧ Upd (MT w) w (w1.setCell ⟨g, s, none⟩ (.slice A1 n1 c1)) := by
  subst hA
  have hs : s < Vs.length := (List.getElem?_eq_some_iff.1 hx).1
  have hx4 := h4 s x l hx hl
  have hVg : (Value.slice (some ⟨g, 0, none⟩) Vs.length c).ownBlock = some g := rfl
  have hgx : (slv x).ownBlock ≠ some g := fun e => el_apart hx4.1 h2.1 (by decide) e rfl
  have hpx : (slv x).ownBlock ≠ some p := rowE_off hx4.1 h1 (by decide)
  have hV1 : rowF elV W.heap.size Vs (.slice (some ⟨g, 0, none⟩) Vs.length c) w1 := rowF_upd h2 hu (fun b hb e => by cases hb; exact hgx e)
  have hp1 : w1.heap[p]? = some (.cells #[.slice (some ⟨g, 0, none⟩) Vs.length c, .int .i64 bg, .int .i64 en] 106 (0, 0)) := (hu.block p (block_lt h1) hpx).trans h1
  have hgW : W.heap.size ≤ g := h2.2 g rfl
  have hgp : p ≠ g := fun e => rowE_off h2.1 h1 (by decide) (by rw [hVg, e])
  obtain ⟨_, cur, hgb⟩ := rowE_block hV1.1 hVg
  have hE1 : Ext W w1 := ext_of_upd (upd_trans (upd_of_ext (fp := fun _ => False) hW) hu (fun i hi e => by have := hx4.2 i e; omega))
  have hrow : ∀ {L : List Mo} {v : Value}, rowF elM W.heap.size L v w1 → rowF elM W.heap.size L v (w1.setCell ⟨g, s, none⟩ (.slice A1 n1 c1)) := fun h => upd_off h hgb (by decide)
  refine ⟨⟨hp, some ⟨g, 0, none⟩, c, Vs.set s (A1, n1, c1), ?_, ?_, by rw [List.length_set, addM_len, h3], fun i y l' hy hl' => ?_, fun i j y z b hij hy hz hb => ?_⟩, ext_set hE1 hgW _, mt_trans (mt_grown hx4.1 hu (fun b h => h) (.inr (.inr rfl))) (mt_set hgb (.inr (.inl rfl)))⟩
  · rw [Below.heap_setCell _ _ _ _ (by exact hgp), List.length_set]
    exact hp1
  · refine ⟨?_, hV1.2⟩
    rcases rowE_cases hV1.1 with ⟨h, _⟩ | ⟨g', cap, cur', h, hg', k1, k2, k3, k4⟩
    · cases h
    · simp only [Value.slice.injEq, Option.some.injEq, Addr.mk.injEq, and_true, true_and] at h
      obtain ⟨rfl, rfl⟩ := h
      refine ⟨by rw [flatE_length], .inr ⟨g, c, cur'.setIfInBounds s (.slice A1 n1 c1), by rw [List.length_set], Nat.zero_le _, heap_setCell_at hg', by rw [List.length_set]; exact k1, k2, by rw [Array.size_setIfInBounds]; exact k3, ?_⟩⟩
      have e1 : elV.size = 1 := rfl
      rw [e1, Nat.mul_one] at k4 ⊢
      rw [List.length_set, Array.toList_setIfInBounds, List.take_set, k4]
      apply List.ext_getElem?
      intro q
      have hfl : ∀ V : List SlV, (flatE elV V) = V.map slv := fun V => by
        induction V with
        | nil => rfl
        | cons v r ih => rw [flatE_cons, ih]; rfl
      rw [hfl, hfl, List.getElem?_map, List.getElem?_set, List.getElem?_set, List.getElem?_map, List.length_map]
      by_cases hq : s = q
      · subst hq; simp [hs, slv]
      · simp [hq]
  · obtain ⟨l0, hl0, rfl⟩ := addM_at hl'
    rw [List.getElem?_set] at hy
    by_cases hi : s = i
    · subst hi
      rw [if_pos rfl, if_pos hs] at hy
      cases hy
      rw [hl] at hl0
      cases hl0
      rw [if_pos rfl]
      exact hrow hr
    · rw [if_neg hi] at hy
      rw [if_neg (fun e => hi e.symm)]
      have h0 := h4 i y l0 hy hl0
      exact hrow (rowF_upd h0 hu (fun b hb e => h5 s i x y b hi hx hy e hb))
  · rw [List.getElem?_set] at hy hz
    have key : ∀ (i : Nat) (y : SlV) (b : Nat), s ≠ i → Vs[i]? = some y → (slv y).ownBlock = some b → (Value.slice A1 n1 c1).ownBlock ≠ some b := fun i y b hi hy hb e => by
      rcases hat with h | h
      · exact h5 s i x y b hi hx hy (h ▸ e) hb
      · have h6 := h b e
        obtain ⟨l', hl'⟩ : ∃ l', Ms[i]? = some l' := ⟨_, List.getElem?_eq_getElem (by rw [← h3]; exact (List.getElem?_eq_some_iff.1 hy).1)⟩
        have h7 := (rowE_block (h4 i y l' hy hl').1 hb).1
        omega
    by_cases hi : s = i
    · subst hi
      rw [if_pos rfl, if_pos hs] at hy
      cases hy
      rw [if_neg hij] at hz
      exact fun e => key j z b hij hz e hb
    · rw [if_neg hi] at hy
      by_cases hj : s = j
      · subst hj
        rw [if_pos rfl, if_pos hs] at hz
        cases hz
        exact key i y b hi hy hb
      · rw [if_neg hj] at hz
        exact h5 i j y z b hij hy hz hb
end Go.Proofs.Ytiabmdboacpmcaa
