/- Texts joined: Pf Pg Ph Pi Pj Pk Pl. -/
import Derived.WalkKit
import Derived.KernelRfl
import Derived.TacticsInMore
import Derived.Deep.DeepCutAuto
import Derived.Shelf.Abstract
import Derived.Maps.AppendAt
import Derived.Test.YtiabmdboacpmcaaY08
import Derived.Test.YtiabmdboacpmcaaY05
import Derived.Test.YtiabmdboacpmcaaY12
/- A machine as it lies in memory; state, free, symbol. -/
namespace Go.Proofs.Ytiabmdboacpmcaa
open Go Go.RowKit Go.Sort
set_option maxHeartbeats 800000

abbrev SlV := Option Addr × Nat × Nat
def slv (x : SlV) : Value := .slice x.1 x.2.1 x.2.2
abbrev Mo := Option Sy × Nat
def encM (m : Mo) : List Value := match m.1 with
  | none => [.int .i64 0, .bool false, .bool true, .int .i64 m.2]
  | some s => [.int .i64 s.1, .bool s.2, .bool false, .int .i64 m.2]
def elV : El SlV := ⟨fun x => [slv x], 1, 112, by decide, fun _ => rfl, fun x u hu => by rw [List.mem_singleton.1 hu]; rfl⟩
def elM : El Mo := ⟨encM, 4, 114, by decide, fun x => by unfold encM; split <;> rfl, fun x u hu => by
  unfold encM at hu
  split at hu <;> (simp only [List.mem_cons, List.not_mem_nil, or_false] at hu; rcases hu with rfl | rfl | rfl | rfl <;> rfl)⟩
noncomputable def tpV : Tp Try.prog 104 elV := ⟨(Try.prog.info? 112).get (by kernel_rfl), .slice none 0 0, 24, Try.underlying104, by kernel_rfl, by kernel_rfl, by kernel_rfl, by kernel_rfl, rfl, by decide⟩
noncomputable def tpM : Tp Try.prog 112 elM := ⟨(Try.prog.info? 114).get (by kernel_rfl), .agg #[.int .i64 0, .bool false, .bool false, .int .i64 0], 32, Try.underlying112, by kernel_rfl, by kernel_rfl, by kernel_rfl, by kernel_rfl, rfl, by decide⟩

/-- a machine, made behind W -/
def MachAt (W w : World) (p : Nat) (Ms : List (List Mo)) (bg en : Int) : Prop :=
  W.heap.size ≤ p ∧ ∃ (A : Option Addr) (c : Nat) (Vs : List SlV), w.heap[p]? = some (.cells #[.slice A Vs.length c, .int .i64 bg, .int .i64 en] 106 (0, 0)) ∧ rowF elV W.heap.size Vs (.slice A Vs.length c) w ∧ Vs.length = Ms.length ∧
    (∀ (i : Nat) (x : SlV) (l : List Mo), Vs[i]? = some x → Ms[i]? = some l → rowF elM W.heap.size l (slv x) w) ∧
    (∀ (i j : Nat) (x y : SlV) (b : Nat), i ≠ j → Vs[i]? = some x → Vs[j]? = some y → (slv x).ownBlock = some b → (slv y).ownBlock ≠ some b)
theorem machAt_ext {W w w' : World} {p : Nat} {Ms : List (List Mo)} {bg en : Int} (h : MachAt W w p Ms bg en) (hE : Ext w w') : MachAt W w' p Ms bg en := by
  obtain ⟨h0, A, c, Vs, h1, h2, h3, h4, h5⟩ := h
  exact ⟨h0, A, c, Vs, (ext_block hE (block_lt h1)).trans h1, rowF_ext _ _ _ hE h2, h3, fun i x l hx hl => rowF_ext _ _ _ hE (h4 i x l hx hl), h5⟩
theorem rowF_upd {α : Type} {E : El α} {H : Nat} {L : List α} {v : Value} {fp : Nat → Prop} {w w' : World} (h : rowF E H L v w) (hu : Upd fp w w') (hn : ∀ b, v.ownBlock = some b → ¬ fp b) : rowF E H L v w' := ⟨rowE_upd h.1 hu hn, h.2⟩
theorem el_apart {α β : Type} {E : El α} {F : El β} {L : List α} {M : List β} {w : World} {u v : Value} (h : rowE E w u L) (k : rowE F w v M) (hne : E.ty ≠ F.ty) {b : Nat} (hu : u.ownBlock = some b) : v.ownBlock ≠ some b := fun hv => by
  obtain ⟨_, cur, h1⟩ := rowE_block h hu
  obtain ⟨_, cur', h2⟩ := rowE_block k hv
  rw [h1] at h2
  simp only [Option.some.injEq, Obj.cells.injEq] at h2
  exact hne h2.2.1

/-- append to a row that is owned: where the new row lies -/
theorem append_at {P : Program} {α : Type} {E : El α} {t : TypeId} (T : Tp P t E) (ty : TypeId) (H : Nat) (v xv : Value) (L M : List α) (w : World) (hv : rowF E H L v w) (hx : SrcOf E w xv M) (hm : L.length + M.length ≤ 1000000000) (hH : H ≤ w.heap.size) :
    ∃ v' w', (Builtin.append_ #[t, t] ty #[v, xv]).run P w = .ok v' w' ∧ rowF E H (L ++ M) v' w' ∧ w.grownBy w' v.ownBlock ∧ (v'.ownBlock = v.ownBlock ∨ v'.ownBlock = some w.heap.size) := by
  have hbb : (L.length + M.length) * T.bytes ≤ 140737488355328 := Nat.le_trans (Nat.mul_le_mul hm T.hb) (by decide)
  have hml : L.length + M.length ≤ maxLen := by unfold maxLen; omega
  cases M with
  | nil =>
    obtain ⟨B, c, rfl, _⟩ := hx
    obtain ⟨A, c1, hv1⟩ := rowE_form hv.1
    subst hv1
    refine ⟨_, _, append_none T ty A L.length c1 (rowE_cap hv.1).2 w B c, by rw [List.append_nil]; exact hv, World.grownBy.refl w _, .inl rfl⟩
  | cons x M =>
    obtain ⟨B, c, rfl, hB⟩ := hx
    obtain ⟨ad, rfl, hn⟩ := hB (by simp)
    have hown : w.ownsRow H E.ty E.size v L.length (flatE E L) := by
      refine ⟨hv.1.1, ?_⟩
      rcases hv.1.2 with h | ⟨g, cap, cur, h1, _, h3⟩
      · exact .inl h
      · exact .inr ⟨g, cap, cur, h1, hv.2 g (by rw [h1]; rfl), h3⟩
    obtain ⟨v', w', hrun, hown', hgr, _, hat⟩ := run_append_own_at (P := P) w H t ty E.ty T.i T.z E.size T.bytes T.hu T.hi T.hz T.hsz T.hby T.hzc E.hs v L.length (flatE E L) hown ad (x :: M).length c (flatE E (x :: M)) (flatE_length E _) hn (flatE_one E _) hml hbb hH
    exact ⟨v', w', hrun, row_base hown' (by simp) (by rw [flatE_append]) (Nat.le_refl _), hgr, hat⟩
theorem upd_off {α : Type} {E : El α} {H : Nat} {L : List α} {v : Value} {w : World} {p o : Nat} {u : Value} {cs : Array Value} {t : TypeId} (h : rowF E H L v w) (hp : w.heap[p]? = some (.cells cs t (0, 0))) (hne : t ≠ E.ty) : rowF E H L v (w.setCell ⟨p, o, none⟩ u) :=
  rowF_upd h (upd_setCell _) (fun b hb e => rowE_off h.1 hp hne (hb.trans (by rw [e])))
/-- blocks as a machine has them -/
def MT (w : World) (b : Nat) : Prop := ∃ cs t fr, w.heap[b]? = some (.cells cs t fr) ∧ (t = 106 ∨ t = 112 ∨ t = 114)
theorem mt_trans {a b c : World} (h : Upd (MT a) a b) (k : Upd (MT b) b c) : Upd (MT a) a c :=
  upd_trans h k (fun i hi hm => Classical.byContradiction fun hn => by
    obtain ⟨cs, t, fr, h1, h2⟩ := hm
    rw [h.block i hi hn] at h1
    exact hn ⟨cs, t, fr, h1, h2⟩)
theorem mt_ext {a b : World} (h : Ext a b) : Upd (MT a) a b := upd_of_ext h
theorem mt_grown {α : Type} {E : El α} {L : List α} {v : Value} {fp : Nat → Prop} {w w' : World} (h : rowE E w v L) (hu : Upd fp w w') (hf : ∀ b, fp b → v.ownBlock = some b) (ht : E.ty = 106 ∨ E.ty = 112 ∨ E.ty = 114) : Upd (MT w) w w' :=
  upd_mono hu (fun b _ hb => by
    obtain ⟨_, cur, h1⟩ := rowE_block h (hf b hb)
    exact ⟨_, _, _, h1, ht⟩)
theorem mt_set {w : World} {p o : Nat} {u : Value} {cs : Array Value} {t : TypeId} (hp : w.heap[p]? = some (.cells cs t (0, 0))) (ht : t = 106 ∨ t = 112 ∨ t = 114) : Upd (MT w) w (w.setCell ⟨p, o, none⟩ u) :=
  upd_mono (upd_setCell _) (fun b _ hb => by
    obtain rfl : b = p := hb
    exact ⟨_, _, _, hp, ht⟩)
/-- what is kept by what turns a machine -/
theorem mt_block {w w' : World} {b : Nat} {cs : Array Value} {t : TypeId} (h : Upd (MT w) w w') (hb : w.heap[b]? = some (.cells cs t (0, 0))) (ht : t ≠ 106 ∧ t ≠ 112 ∧ t ≠ 114) : w'.heap[b]? = some (.cells cs t (0, 0)) :=
  (h.block b (block_lt hb) (fun ⟨cs', t', fr, h1, h2⟩ => by
    rw [hb] at h1
    simp only [Option.some.injEq, Obj.cells.injEq] at h1
    obtain ⟨-, rfl, -⟩ := h1
    rcases h2 with h | h | h
    · exact ht.1 h
    · exact ht.2.1 h
    · exact ht.2.2 h)).trans hb
theorem state_any (W w : World) (p : Nat) (Ms : List (List Mo)) (bg en : Int) (h : MachAt W w p Ms bg en) (hW : Ext W w) (hl : Ms.length ≤ 100000) :
    Calls Try.prog 58 #[.pointer (some ⟨p, 0, none⟩)] w fun e w' => e = .returned (.int .i64 Ms.length) ∧ MachAt W w' p (Ms ++ [[]]) bg en ∧ Ext W w' ∧ Upd (MT w) w w' := by
  obtain ⟨hp, A, c, Vs, h1, h2, h3, h4, h5⟩ := h
  have q0 : w.cell? ⟨p, 0, none⟩ = some (.slice A Vs.length c) := block_cell h1 0
  have qf := block_frozen h1 0
  have lp := block_lt h1
  have H1 := Lib.hid h1
  have H2 := Lib.hid h2
  have H3 := Lib.hid h3
  have H4 := Lib.hid h4
  have H5 := Lib.hid h5
  have hvl : Vs.length ≤ 100000 := by omega
  have HW := Lib.hid hW
  clear h1 h2 h3 h4 h5 hW
  go_enter Try.func58, Try.ntmps58
  go_wp2_with (at_builtin; refine halt_here ?_)
  refine go_on ?_
  refine wpList_append rfl (.tmp 7) (.tmp 8) rfl _ _ rfl rfl (fun v' w' => rowF elV W.heap.size (Vs ++ [(none, 0, 0)]) v' w' ∧ (w.alloc (.cells #[.slice none 0 0] 112)).grownBy w' (Value.slice A Vs.length c).ownBlock) (append_onto tpV _ W.heap.size (.slice A Vs.length c) _ Vs [(none, 0, 0)] _ (rowF_ext _ _ _ (ext_alloc (ext_refl _) _) H2.out) (srcOf_one ⟨w.heap.size, rfl, Nat.le_refl _, heap_alloc_new w _⟩) (by simp; omega) (by rw [World.size_alloc]; have := ext_size HW.out; omega)) ?_
  rintro v1 w1 ⟨hr, hg⟩
  obtain ⟨A1, c1, hv1⟩ := rowE_form hr.1
  rw [List.length_append] at hv1
  simp only [List.length_cons, List.length_nil, Nat.zero_add] at hv1
  subst hv1
  have hE0 := ext_alloc (ext_refl w) (.cells #[.slice none 0 0] 112)
  have hne : (Value.slice A Vs.length c).ownBlock ≠ some p := rowE_off H2.out.1 H1.out (by decide)
  have hp1 : w1.heap[p]? = some (.cells #[.slice A Vs.length c, .int .i64 bg, .int .i64 en] 106 (0, 0)) := ((upd_grown hg).block p (ext_lt hE0 lp) hne).trans ((ext_block hE0 lp).trans H1.out)
  have HP1 := Lib.hid hp1
  have HR := Lib.hid hr
  have HG := Lib.hid hg
  have HMT := Lib.hid (mt_trans (mt_ext hE0) (mt_grown (rowF_ext _ _ _ hE0 H2.out).1 (upd_grown hg) (fun b h => h) (.inr (.inl rfl))))
  have HEW := Lib.hid (show Ext W w1 from ext_grown (ext_trans HW.out hE0) hg H2.out.2 (Nat.le_refl _))
  have HE0 := Lib.hid hE0
  clear hr hg hp1 hE0 q0 qf hne
  have q0 := block_cell HP1.out 0
  have qf := block_frozen HP1.out 0
  have lp1 := block_lt HP1.out
  simp at q0
  go_wp2
  refine bodyPost_ret (results_tmp rfl _ _ _) rfl ?_
  refine ⟨by rw [← H3.out]; simp, ⟨hp, A1, c1, Vs ++ [(none, 0, 0)], ?_, upd_off (by simpa using HR.out) HP1.out (by decide), by rw [List.length_append, List.length_append, H3.out]; rfl, fun i x l hx hl => ?_, fun i j x y b hij hx hy hb => ?_⟩, ext_set HEW.out hp _, mt_trans HMT.out (mt_set HP1.out (.inl rfl))⟩
  · rw [heap_setCell_at HP1.out]
    simp
  · rcases Nat.lt_or_ge i Vs.length with hi | hi
    · rw [List.getElem?_append_left hi] at hx
      rw [List.getElem?_append_left (by rw [← H3.out]; exact hi)] at hl
      have h0 := rowF_ext _ _ _ HE0.out (H4.out i x l hx hl)
      exact upd_off (rowF_upd h0 (upd_grown HG.out) (fun b hb e => el_apart h0.1 (rowF_ext _ _ _ HE0.out H2.out).1 (by decide) hb e)) HP1.out (by decide)
    · have hi2 : i = Vs.length := by
        have := (List.getElem?_eq_some_iff.1 hx).1
        simp at this
        omega
      rw [List.getElem?_append_right hi, hi2] at hx
      rw [List.getElem?_append_right (by rw [← H3.out]; exact hi), hi2, H3.out] at hl
      simp at hx hl
      subst hx hl
      exact rowF_nil _ _
  · rcases Nat.lt_or_ge i Vs.length with hi | hi
    · rcases Nat.lt_or_ge j Vs.length with hj | hj
      · rw [List.getElem?_append_left hi] at hx
        rw [List.getElem?_append_left hj] at hy
        exact H5.out i j x y b hij hx hy hb
      · have hj2 : j = Vs.length := by
          have := (List.getElem?_eq_some_iff.1 hy).1
          simp at this
          omega
        rw [List.getElem?_append_right hj, hj2] at hy
        simp at hy
        subst hy
        intro h; cases h
    · have hi2 : i = Vs.length := by
        have := (List.getElem?_eq_some_iff.1 hx).1
        simp at this
        omega
      rw [List.getElem?_append_right hi, hi2] at hx
      simp at hx
      subst hx
      cases hb
def addM (Ms : List (List Mo)) (s : Nat) (mv : Mo) : List (List Mo) := Ms.modify s (· ++ [mv])
theorem addM_len (Ms : List (List Mo)) (s : Nat) (mv : Mo) : (addM Ms s mv).length = Ms.length := by simp [addM]
theorem addM_at {Ms : List (List Mo)} {s i : Nat} {mv : Mo} {l : List Mo} (h : (addM Ms s mv)[i]? = some l) : ∃ l0, Ms[i]? = some l0 ∧ l = if i = s then l0 ++ [mv] else l0 := by
  rw [addM, List.getElem?_modify] at h
  obtain ⟨l0, h1, h2⟩ := Option.map_eq_some_iff.1 h
  refine ⟨l0, h1, ?_⟩
  by_cases e : i = s
  · subst e; simp at h2 ⊢; exact h2.symm
  · rw [if_neg e]
    rw [if_neg (fun h => e h.symm)] at h2
    exact h2.symm
/-- what is there when a row has grown, and its new place is laid down -/
theorem mach_add {W w w1 : World} {p : Nat} {Ms : List (List Mo)} {bg en : Int} {A : Option Addr} {c s g : Nat} {Vs : List SlV} {x : SlV} {l : List Mo} {mv : Mo} {A1 : Option Addr} {n1 c1 : Nat}
    (hp : W.heap.size ≤ p) (h1 : w.heap[p]? = some (.cells #[.slice A Vs.length c, .int .i64 bg, .int .i64 en] 106 (0, 0))) (h2 : rowF elV W.heap.size Vs (.slice A Vs.length c) w) (h3 : Vs.length = Ms.length)
    (h4 : ∀ (i : Nat) (x : SlV) (l : List Mo), Vs[i]? = some x → Ms[i]? = some l → rowF elM W.heap.size l (slv x) w)
    (h5 : ∀ (i j : Nat) (x y : SlV) (b : Nat), i ≠ j → Vs[i]? = some x → Vs[j]? = some y → (slv x).ownBlock = some b → (slv y).ownBlock ≠ some b)
    (hA : A = some ⟨g, 0, none⟩) (hx : Vs[s]? = some x) (hl : Ms[s]? = some l) (hu : Upd (fun b => (slv x).ownBlock = some b) w w1) (hr : rowF elM W.heap.size (l ++ [mv]) (.slice A1 n1 c1) w1)
    (hat : (Value.slice A1 n1 c1).ownBlock = (slv x).ownBlock ∨ ∀ b, (Value.slice A1 n1 c1).ownBlock = some b → w.heap.size ≤ b) (hW : Ext W w) :
    MachAt W (w1.setCell ⟨g, s, none⟩ (.slice A1 n1 c1)) p (addM Ms s mv) bg en ∧ Ext W (w1.setCell ⟨g, s, none⟩ (.slice A1 n1 c1)) ∧ Upd (MT w) w (w1.setCell ⟨g, s, none⟩ (.slice A1 n1 c1)) := by
  subst hA
  have hs : s < Vs.length := (List.getElem?_eq_some_iff.1 hx).1
  have hx4 := h4 s x l hx hl
  have hVg : (Value.slice (some ⟨g, 0, none⟩) Vs.length c).ownBlock = some g := rfl
  have hgx : (slv x).ownBlock ≠ some g := fun e => el_apart hx4.1 h2.1 (by decide) e rfl
  have hpx : (slv x).ownBlock ≠ some p := rowE_off hx4.1 h1 (by decide)
  have hV1 : rowF elV W.heap.size Vs (.slice (some ⟨g, 0, none⟩) Vs.length c) w1 := rowF_upd h2 hu (fun b hb e => by cases hb; exact hgx e)
  have hp1 : w1.heap[p]? = some (.cells #[.slice (some ⟨g, 0, none⟩) Vs.length c, .int .i64 bg, .int .i64 en] 106 (0, 0)) := (hu.block p (block_lt h1) hpx).trans h1
  have hgW : W.heap.size ≤ g := h2.2 g rfl
  have hgp : p ≠ g := fun e => rowE_off h2.1 h1 (by decide) (by rw [hVg, e])
  obtain ⟨_, cur, hgb⟩ := rowE_block hV1.1 hVg
  have hE1 : Ext W w1 := ext_of_upd (upd_trans (upd_of_ext (fp := fun _ => False) hW) hu (fun i hi e => by have := hx4.2 i e; omega))
  have hrow : ∀ {L : List Mo} {v : Value}, rowF elM W.heap.size L v w1 → rowF elM W.heap.size L v (w1.setCell ⟨g, s, none⟩ (.slice A1 n1 c1)) := fun h => upd_off h hgb (by decide)
  refine ⟨⟨hp, some ⟨g, 0, none⟩, c, Vs.set s (A1, n1, c1), ?_, ?_, by rw [List.length_set, addM_len, h3], fun i y l' hy hl' => ?_, fun i j y z b hij hy hz hb => ?_⟩, ext_set hE1 hgW _, mt_trans (mt_grown hx4.1 hu (fun b h => h) (.inr (.inr rfl))) (mt_set hgb (.inr (.inl rfl)))⟩
  · rw [Below.heap_setCell _ _ _ _ (by exact hgp), List.length_set]
    exact hp1
  · refine ⟨?_, hV1.2⟩
    rcases rowE_cases hV1.1 with ⟨h, _⟩ | ⟨g', cap, cur', h, hg', k1, k2, k3, k4⟩
    · cases h
    · simp only [Value.slice.injEq, Option.some.injEq, Addr.mk.injEq, and_true, true_and] at h
      obtain ⟨rfl, rfl⟩ := h
      refine ⟨by rw [flatE_length], .inr ⟨g, c, cur'.setIfInBounds s (.slice A1 n1 c1), by rw [List.length_set], Nat.zero_le _, heap_setCell_at hg', by rw [List.length_set]; exact k1, k2, by rw [Array.size_setIfInBounds]; exact k3, ?_⟩⟩
      have e1 : elV.size = 1 := rfl
      rw [e1, Nat.mul_one] at k4 ⊢
      rw [List.length_set, Array.toList_setIfInBounds, List.take_set, k4]
      apply List.ext_getElem?
      intro q
      have hfl : ∀ V : List SlV, (flatE elV V) = V.map slv := fun V => by
        induction V with
        | nil => rfl
        | cons v r ih => rw [flatE_cons, ih]; rfl
      rw [hfl, hfl, List.getElem?_map, List.getElem?_set, List.getElem?_set, List.getElem?_map, List.length_map]
      by_cases hq : s = q
      · subst hq; simp [hs, slv]
      · simp [hq]
  · obtain ⟨l0, hl0, rfl⟩ := addM_at hl'
    rw [List.getElem?_set] at hy
    by_cases hi : s = i
    · subst hi
      rw [if_pos rfl, if_pos hs] at hy
      cases hy
      rw [hl] at hl0
      cases hl0
      rw [if_pos rfl]
      exact hrow hr
    · rw [if_neg hi] at hy
      rw [if_neg (fun e => hi e.symm)]
      have h0 := h4 i y l0 hy hl0
      exact hrow (rowF_upd h0 hu (fun b hb e => h5 s i x y b hi hx hy e hb))
  · rw [List.getElem?_set] at hy hz
    have key : ∀ (i : Nat) (y : SlV) (b : Nat), s ≠ i → Vs[i]? = some y → (slv y).ownBlock = some b → (Value.slice A1 n1 c1).ownBlock ≠ some b := fun i y b hi hy hb e => by
      rcases hat with h | h
      · exact h5 s i x y b hi hx hy (h ▸ e) hb
      · have h6 := h b e
        obtain ⟨l', hl'⟩ : ∃ l', Ms[i]? = some l' := ⟨_, List.getElem?_eq_getElem (by rw [← h3]; exact (List.getElem?_eq_some_iff.1 hy).1)⟩
        have h7 := (rowE_block (h4 i y l' hy hl').1 hb).1
        omega
    by_cases hi : s = i
    · subst hi
      rw [if_pos rfl, if_pos hs] at hy
      cases hy
      rw [if_neg hij] at hz
      exact fun e => key j z b hij hz e hb
    · rw [if_neg hi] at hy
      by_cases hj : s = j
      · subst hj
        rw [if_pos rfl, if_pos hs] at hz
        cases hz
        exact key i y b hi hy hb
      · rw [if_neg hj] at hz
        exact h5 i j y z b hij hy hz hb
end Go.Proofs.Ytiabmdboacpmcaa
/- free and symbol. -/
namespace Go.Proofs.Ytiabmdboacpmcaa
open Go Go.RowKit Go.Sort
set_option maxHeartbeats 800000

theorem uw_cell {fp : Nat → Prop} {W : World} {b o : Nat} {v : Value} (hc : W.cell? ⟨b, o, none⟩ = some v) (hn : ¬ fp b) (p : UW fp W) : p.val.cell? ⟨b, o, none⟩ = some v :=
  (upd_cell p.ok (World.block_lt_of_cell? _ _ hc) hn o).trans hc

theorem free_any (W w : World) (p : Nat) (Ms : List (List Mo)) (bg en : Int) (s d : Nat) (h : MachAt W w p Ms bg en) (hW : Ext W w) (hl : Ms.length ≤ 100000) (hs : s < Ms.length) (hll : ∀ l ∈ Ms, l.length ≤ 100000) :
    Calls Try.prog 87 #[.pointer (some ⟨p, 0, none⟩), .int .i64 s, .int .i64 d] w fun e w' => e = .returned (.tuple #[]) ∧ MachAt W w' p (addM Ms s (none, d)) bg en ∧ Ext W w' ∧ Upd (MT w) w w' := by
  obtain ⟨hp, A, c, Vs, h1, h2, h3, h4, h5⟩ := h
  have hvl : Vs.length ≤ 100000 := by omega
  have hsv : s < Vs.length := by omega
  obtain ⟨x, hx⟩ : ∃ x, Vs[s]? = some x := ⟨_, List.getElem?_eq_getElem hsv⟩
  obtain ⟨l, hlm⟩ : ∃ l, Ms[s]? = some l := ⟨_, List.getElem?_eq_getElem hs⟩
  have hln := hll l (List.mem_of_getElem? hlm)
  have h4x := h4 s x l hx hlm
  obtain ⟨g, hg, lg⟩ := rowE_some h2.1 (fun e => by rw [e] at hsv; simp at hsv)
  have HM := Lib.hid (fun (w1 : World) (A1 : Option Addr) (n1 c1 : Nat) hu hr hat => mach_add (w1 := w1) (mv := (none, d)) (A1 := A1) (n1 := n1) (c1 := c1) hp h1 h2 h3 h4 h5 hg hx hlm hu hr hat hW)
  subst hg
  have hpx : (slv x).ownBlock ≠ some p := rowE_off h4x.1 h1 (by decide)
  have hgx : (slv x).ownBlock ≠ some g := fun e => el_apart h4x.1 h2.1 (by decide) e rfl
  obtain ⟨A2, c2, hx2⟩ := rowE_form h4x.1
  have qs : w.cell? ⟨g, s, none⟩ = some (slv x) := by
    have := rowE_cell h2.1 hx (j := 0) (u := slv x) rfl
    simpa [elV] using this
  have q0 : ∀ pw : UW (fun b => (slv x).ownBlock = some b) w, pw.val.cell? ⟨p, 0, none⟩ = some (.slice (some ⟨g, 0, none⟩) Vs.length c) := uw_cell (block_cell h1 0) hpx
  have q1 : ∀ pw : UW (fun b => (slv x).ownBlock = some b) w, pw.val.cell? ⟨g, s, none⟩ = some (.slice A2 l.length c2) := by rw [← hx2]; exact uw_cell qs hgx
  obtain ⟨_, cur, hgb⟩ := rowE_block h2.1 (show (Value.slice (some ⟨g, 0, none⟩) Vs.length c).ownBlock = some g from rfl)
  have HG := Lib.hid hgb
  have H4 := Lib.hid h4x
  have HX2 := Lib.hid hx2
  have HGX := Lib.hid hgx
  have HW := Lib.hid hW
  have hsi : (s : Int) < (Vs.length : Int) := by omega
  have hsi0 : (0 : Int) ≤ (s : Int) := by omega
  clear h1 h2 h3 h4 h5 hx hlm h4x hpx hgx qs hW hgb hx2 hll
  go_enter Try.func87, Try.ntmps87
  refine wp_region_upd (fp := fun b => (slv x).ownBlock = some b) [] [0, 1, 2, 3, 4, 5, 6, 7, 8, 9, 10, 11, 12, 13] [(14, oneF elM w.heap.size (none, d))] 15 (fun v w' => rowF elM W.heap.size (l ++ [(none, d)]) v w' ∧ (v.ownBlock = (slv x).ownBlock ∨ ∀ b, v.ownBlock = some b → w.heap.size ≤ b)) [16, 17] [14, 15] rfl (by kernel_rfl) (by kernel_rfl) (by kernel_rfl) (fun _ _ d _ _ h => by cases d <;> exact h) ?_
  refine wpPre_nil ?_
  repeat (refine wpU_step rfl (fun K hK => ?_); (try simp only [Oper.quietAt, Oper.quietUpon]); go_simp; (refine hK _ ?_; clear hK K))
  refine wpU_nil ?_
  refine wpGen_step rfl rfl oneF_ext (fun w6 hE6 hS6 => ?_) (fun v0 => ?_)
  · simp only [runsAt]
    go_simp
    exact ⟨ext_alloc (ext_refl _) _, _, rfl, ext_size hE6, heap_alloc_new w6 _⟩
  refine wpGen_nil ?_
  refine ⟨⟨_, rfl, rfl, fun v a b hE hR => ⟨rowF_ext _ _ _ hE hR.1, hR.2⟩⟩, fun w6 hE6 hS6 o ho => ?_, fun o ho v w6 hU6 hR6 => ?_⟩
  · cases ho
    have hone : oneF elM w.heap.size (none, d) v0 w6 := hS6 _ (List.mem_cons_self ..)
    refine runs_append (sv := .slice A2 l.length c2) (xv := v0) (.tmp 17) (.tmp 20) rfl rfl rfl ?_
    rw [← HX2.out]
    obtain ⟨v', w', hrun, hr, hg, hat⟩ := append_at tpM 112 W.heap.size (slv x) v0 l [(none, d)] w6 (rowF_ext _ _ _ hE6 H4.out) (srcOf_one hone) (by simp; omega) (Nat.le_trans (ext_size HW.out) (ext_size hE6))
    refine ⟨v', w', hrun, upd_grown hg, hr, ?_⟩
    rcases hat with h | h
    · exact .inl h
    · exact .inr (fun b hb => by rw [h] at hb; cases hb; exact ext_size hE6)
  · cases ho
    obtain ⟨A1, c1, hv1⟩ := rowE_form hR6.1.1
    subst hv1
    obtain ⟨hm1, hm2, hm3⟩ := HM.out w6 A1 _ c1 hU6 hR6.1 hR6.2
    obtain ⟨n1, hn1⟩ : ∃ n1, n1 = (l ++ [((none, d) : Mo)]).length := ⟨_, rfl⟩
    rw [← hn1] at hm1 hm2 hm3 ⊢
    have HM3 := Lib.hid hm3
    have HM1 := Lib.hid hm1
    have HM2 := Lib.hid hm2
    have hgb6 := (hU6.block g (block_lt HG.out) HGX.out).trans HG.out
    have qf := block_frozen hgb6 s
    have lg6 := block_lt hgb6
    have q2 : w6.cell? ⟨g, s, none⟩ = some (.slice A2 l.length c2) := q1 ⟨w6, hU6⟩
    clear hm1 hm2 hm3 hR6 hU6 hgb6 q0 q1 hn1
    refine wpSeq_of_list [16, 17] [_, _] _ _ rfl ?_
    go_wp2
    go_end0
    exact ⟨rfl, HM1.out, HM2.out, HM3.out⟩

theorem symbol_any (k n : Int) (ps : List Tr) (v : Value) (w : World) (hv : PV w (.node k n ps) v) (hk : k = 0 ∨ k = 1) : Calls Try.prog 80 #[v] w fun e w' => e = .returned (.agg #[.int .i64 n, .bool (decide (k = 1))]) ∧ Ext w w' := by
  obtain ⟨s, rfl, hs⟩ := hv
  clear hs
  rcases hk with rfl | rfl
  · go_enter Try.func80, Try.ntmps80
    go_wp2
    refine bodyPost_ret (v := .agg #[.int .i64 n, .bool false]) (by simp [results, Try.results80, go_sem]) rfl ?_
    exact ⟨by simp, ext_alloc (ext_alloc (ext_refl _) _) _⟩
  · go_enter Try.func80, Try.ntmps80
    go_wp2
    refine bodyPost_ret (v := .agg #[.int .i64 n, .bool true]) (by simp [results, Try.results80, go_sem]) rfl ?_
    exact ⟨by simp, ext_alloc (ext_alloc (ext_refl _) _) _⟩
end Go.Proofs.Ytiabmdboacpmcaa
/- Plain: what is laid grows part by part; how much it is. -/
namespace Go.Proofs.Ytiabmdboacpmcaa
open Go Go.RowKit Go.Sort

theorem genSeq_snoc : ∀ (ps : List Tr) (q : Tr) (m s : Nat), genSeq (ps ++ [q]) m s = ⟨(genSeq ps m s).moves ++ (gen q (genSeq ps m s).many (genSeq ps m s).last).moves, (gen q (genSeq ps m s).many (genSeq ps m s).last).many, (gen q (genSeq ps m s).many (genSeq ps m s).last).last⟩
  | [], q, m, s => by
    rw [List.nil_append, genSeq, genSeq, genSeq]
    simp
  | p :: r, q, m, s => by
    rw [List.cons_append, genSeq, genSeq_snoc r q, genSeq]
    simp [List.append_assoc]
theorem genAlt_snoc : ∀ (ps : List Tr) (q : Tr) (m s tt : Nat), genAlt (ps ++ [q]) m s tt = ((genAlt ps m s tt).1 ++ ((s, none, (genAlt ps m s tt).2) :: ((gen q ((genAlt ps m s tt).2 + 1) (genAlt ps m s tt).2).moves ++ [((gen q ((genAlt ps m s tt).2 + 1) (genAlt ps m s tt).2).last, none, tt)])), (gen q ((genAlt ps m s tt).2 + 1) (genAlt ps m s tt).2).many)
  | [], q, m, s, tt => by
    rw [List.nil_append, genAlt, genAlt, genAlt]
    simp
  | p :: r, q, m, s, tt => by
    rw [List.cons_append, genAlt, genAlt_snoc r q, genAlt]
    simp [List.append_assoc]

mutual
theorem gen_size : ∀ (t : Tr) (m s : Nat), Form t → m ≤ (gen t m s).many ∧ (gen t m s).many + 1 ≤ m + 3 * sizeT t ∧ (gen t m s).moves.length + 2 ≤ 5 * sizeT t
  | .node k n ps, m, s, hf => by
    rw [Form] at hf
    rw [sizeT]
    rcases hf with ⟨hk, rfl, _⟩ | ⟨hk, _, hfl⟩ | ⟨hk, ⟨p, rfl⟩, hfl⟩
    · rw [gen, if_pos hk]
      refine ⟨?_, ?_, ?_⟩ <;> simp [sizeL]
    · rcases hk with rfl | rfl
      · have h := genSeq_size ps m s hfl
        rw [gen, if_neg (by decide), if_pos rfl]
        refine ⟨h.1, ?_, ?_⟩ <;> omega
      · have h := genAlt_size ps (m + 1) s m hfl
        rw [gen, if_neg (by decide), if_neg (by decide), if_pos rfl]
        refine ⟨?_, ?_, ?_⟩
        · show m ≤ (genAlt ps (m + 1) s m).2; omega
        · show (genAlt ps (m + 1) s m).2 + 1 ≤ _; omega
        · show (genAlt ps (m + 1) s m).1.length + 2 ≤ _; omega
    · rw [FormL] at hfl
      have h := gen_size p (m + 2) m hfl.1
      rw [gen, if_neg (by omega), if_neg (by omega), if_neg (by omega), genOne]
      have hs : sizeL [p] = sizeT p := by rw [sizeL, sizeL, Nat.add_zero]
      rw [hs]
      refine ⟨?_, ?_, ?_⟩
      · show m ≤ (gen p (m + 2) m).many; omega
      · show (gen p (m + 2) m).many + 1 ≤ _; omega
      · simp only [List.length_cons, List.length_append]
        have e1 : (if k = 5 then ([] : List Mv) else [(m, none, m + 1)]).length ≤ 1 := by split <;> simp
        have e2 : (if k = 6 then ([] : List Mv) else [(m + 1, none, m)]).length ≤ 1 := by split <;> simp
        omega
theorem genSeq_size : ∀ (ps : List Tr) (m s : Nat), FormL ps → m ≤ (genSeq ps m s).many ∧ (genSeq ps m s).many ≤ m + 3 * sizeL ps ∧ (genSeq ps m s).moves.length ≤ 5 * sizeL ps
  | [], m, s, _ => by rw [genSeq, sizeL]; simp
  | p :: r, m, s, hf => by
    rw [FormL] at hf
    have h1 := gen_size p m s hf.1
    have h2 := genSeq_size r (gen p m s).many (gen p m s).last hf.2
    rw [genSeq, sizeL]
    refine ⟨?_, ?_, ?_⟩
    · show m ≤ (genSeq r _ _).many; omega
    · show (genSeq r _ _).many ≤ _; omega
    · simp only [List.length_append]; omega
theorem genAlt_size : ∀ (ps : List Tr) (m s tt : Nat), FormL ps → m ≤ (genAlt ps m s tt).2 ∧ (genAlt ps m s tt).2 ≤ m + 3 * sizeL ps ∧ (genAlt ps m s tt).1.length ≤ 5 * sizeL ps
  | [], m, s, tt, _ => by rw [genAlt, sizeL]; simp
  | p :: r, m, s, tt, hf => by
    rw [FormL] at hf
    have h1 := gen_size p (m + 1) m hf.1
    have h2 := genAlt_size r (gen p (m + 1) m).many s tt hf.2
    rw [genAlt, sizeL]
    refine ⟨?_, ?_, ?_⟩
    · show m ≤ (genAlt r _ _ _).2; omega
    · show (genAlt r _ _ _).2 ≤ _; omega
    · simp only [List.length_cons, List.length_append]; omega
end
theorem genSeq_sizeT (ps : List Tr) (_m _s : Nat) (j : Nat) (hf : FormL ps) : FormL (ps.take j) := by
  induction ps generalizing j with
  | nil => simpa using hf
  | cons p r ih =>
    rw [FormL] at hf
    cases j with
    | zero => rw [List.take_zero, FormL]; trivial
    | succ j => rw [List.take_succ_cons, FormL]; exact ⟨hf.1, ih j hf.2⟩
theorem form_mem : ∀ {ps : List Tr} {q : Tr}, FormL ps → q ∈ ps → Form q
  | p :: r, q, hf, hq => by
    rw [FormL] at hf
    rcases List.mem_cons.1 hq with rfl | hq
    · exact hf.1
    · exact form_mem hf.2 hq

/-- what moves a machine has -/
def HasM (Ms : List (List Mo)) (s : Nat) (o : Option Sy) (d : Nat) : Prop := ∃ l, Ms[s]? = some l ∧ (o, d) ∈ l
theorem hasM_state {Ms : List (List Mo)} {s : Nat} {o : Option Sy} {d : Nat} : HasM (Ms ++ [[]]) s o d ↔ HasM Ms s o d := by
  constructor
  · rintro ⟨l, hl, hm⟩
    rcases Nat.lt_or_ge s Ms.length with h | h
    · rw [List.getElem?_append_left h] at hl
      exact ⟨l, hl, hm⟩
    · rw [List.getElem?_append_right h] at hl
      have : l = [] := by
        cases hi : s - Ms.length with
        | zero => rw [hi] at hl; simpa using hl.symm
        | succ n => rw [hi] at hl; simp at hl
      rw [this] at hm
      cases hm
  · rintro ⟨l, hl, hm⟩
    exact ⟨l, by rw [List.getElem?_append_left (List.getElem?_eq_some_iff.1 hl).1]; exact hl, hm⟩
theorem hasM_add {Ms : List (List Mo)} {s : Nat} {mv : Mo} (hs : s < Ms.length) {s' : Nat} {o : Option Sy} {d : Nat} : HasM (addM Ms s mv) s' o d ↔ HasM Ms s' o d ∨ (s' = s ∧ (o, d) = mv) := by
  constructor
  · rintro ⟨l, hl, hm⟩
    obtain ⟨l0, h0, rfl⟩ := addM_at hl
    by_cases e : s' = s
    · rw [if_pos e] at hm
      rcases List.mem_append.1 hm with h | h
      · exact .inl ⟨l0, h0, h⟩
      · exact .inr ⟨e, by simpa using h⟩
    · rw [if_neg e] at hm
      exact .inl ⟨l0, h0, hm⟩
  · rintro (⟨l, hl, hm⟩ | ⟨rfl, rfl⟩)
    · refine ⟨if s' = s then l ++ [mv] else l, ?_, ?_⟩
      · rw [addM, List.getElem?_modify, hl]
        by_cases e : s' = s
        · subst e; simp
        · have e' : ¬ s = s' := fun h => e h.symm
          rw [if_neg e]; simp [e']
      · split
        · exact List.mem_append_left _ hm
        · exact hm
    · obtain ⟨l, hl⟩ : ∃ l, Ms[s']? = some l := ⟨_, List.getElem?_eq_getElem hs⟩
      refine ⟨l ++ [(o, d)], ?_, by simp⟩
      rw [addM, List.getElem?_modify, hl]
      simp
theorem addM_small {Ms : List (List Mo)} {s : Nat} {mv : Mo} {B : Nat} (h : ∀ l ∈ Ms, l.length ≤ B) : ∀ l ∈ addM Ms s mv, l.length ≤ B + 1 := fun l hl => by
  obtain ⟨i, hi, he⟩ := List.mem_iff_getElem.1 hl
  obtain ⟨l0, h0, h1⟩ := addM_at (l := l) (i := i) (by rw [List.getElem?_eq_getElem hi, he])
  have := h l0 (List.mem_of_getElem? h0)
  rw [h1]
  split
  · rw [List.length_append]; simp; exact this
  · omega
theorem state_small {Ms : List (List Mo)} {B : Nat} (h : ∀ l ∈ Ms, l.length ≤ B) : ∀ l ∈ Ms ++ [[]], l.length ≤ B := fun l hl => by
  rcases List.mem_append.1 hl with h1 | h1
  · exact h l h1
  · rw [List.mem_singleton.1 h1]; exact Nat.zero_le _

theorem formB_iff : ∀ t : Tr, formB t = true → Form t := by
  intro t
  exact (formB_both (sizeT t)).1 t (Nat.le_refl _)
where
  formB_both : ∀ N : Nat, (∀ t, sizeT t ≤ N → formB t = true → Form t) ∧ (∀ ps, sizeL ps ≤ N → formL ps = true → FormL ps)
  | 0 => ⟨fun t h => by have := sizeT_pos t; omega, fun ps h _ => by
      have := sizeL_len ps
      have : ps = [] := List.eq_nil_of_length_eq_zero (by omega)
      rw [this, FormL]; trivial⟩
  | N + 1 => by
    obtain ⟨ih1, ih2⟩ := formB_both N
    have hT : ∀ t, sizeT t ≤ N + 1 → formB t = true → Form t := fun t ht hb => by
      cases t with
      | node k n ps =>
        rw [sizeT] at ht
        have hps := ih2 ps (by omega)
        rw [formB] at hb
        rw [Form]
        split at hb
        · rename_i hk
          simp only [Bool.and_eq_true, decide_eq_true_eq] at hb
          exact .inl ⟨hk, hb.1, hb.2⟩
        split at hb
        · rename_i hk
          simp only [Bool.and_eq_true, Bool.not_eq_true', decide_eq_false_iff_not] at hb
          exact .inr (.inl ⟨hk, hb.1, hps hb.2⟩)
        split at hb
        · rename_i hk
          simp only [Bool.and_eq_true, decide_eq_true_eq] at hb
          exact .inr (.inr ⟨hk, List.length_eq_one_iff.1 hb.1, hps hb.2⟩)
        · cases hb
    refine ⟨hT, fun ps => ?_⟩
    induction ps with
    | nil => intro _ _; rw [FormL]; trivial
    | cons p r ih =>
      intro h hb
      rw [sizeL] at h
      rw [formL, Bool.and_eq_true] at hb
      rw [FormL]
      exact ⟨hT p (by omega) hb.1, ih (by omega) hb.2⟩
end Go.Proofs.Ytiabmdboacpmcaa
/- lay, of a step. -/
namespace Go.Proofs.Ytiabmdboacpmcaa
open Go Go.RowKit Go.Sort
set_option maxHeartbeats 1000000

/-- a machine with moves, so many states -/
def Cur (W : World) (p : Nat) (bg en : Int) (mv : List Mv) (m : Nat) (w : World) : Prop :=
  ∃ Ms, MachAt W w p Ms bg en ∧ Ms.length = m ∧ (∀ s o d, HasM Ms s o d ↔ (s, o, d) ∈ mv) ∧ (∀ l ∈ Ms, l.length ≤ mv.length) ∧ Ext W w
theorem cur_ext {W w w' : World} {p m : Nat} {bg en : Int} {mv : List Mv} (h : Cur W p bg en mv m w) (hE : Ext w w') : Cur W p bg en mv m w' := by
  obtain ⟨Ms, h1, h2, h3, h4, h5⟩ := h
  exact ⟨Ms, machAt_ext h1 hE, h2, h3, h4, ext_trans h5 hE⟩
theorem cur_perm {W w : World} {p m : Nat} {bg en : Int} {mv mv' : List Mv} (h : Cur W p bg en mv m w) (hm : ∀ x, x ∈ mv ↔ x ∈ mv') (hl : mv.length ≤ mv'.length) : Cur W p bg en mv' m w := by
  obtain ⟨Ms, h1, h2, h3, h4, h5⟩ := h
  exact ⟨Ms, h1, h2, fun s o d => (h3 s o d).trans (hm _), fun l hl' => Nat.le_trans (h4 l hl') hl, h5⟩
theorem state_cur (W w : World) (p m : Nat) (bg en : Int) (mv : List Mv) (h : Cur W p bg en mv m w) (hm : m ≤ 100000) :
    Calls Try.prog 58 #[.pointer (some ⟨p, 0, none⟩)] w fun e w' => e = .returned (.int .i64 m) ∧ Cur W p bg en mv (m + 1) w' ∧ Upd (MT w) w w' := by
  obtain ⟨Ms, h1, rfl, h3, h4, h5⟩ := h
  refine (state_any W w p Ms bg en h1 h5 hm).mono ?_
  rintro e w' ⟨rfl, k1, k2, k3⟩
  exact ⟨rfl, ⟨_, k1, by simp, fun s o d => hasM_state.trans (h3 s o d), state_small h4, k2⟩, k3⟩
theorem free_cur (W w : World) (p m s d : Nat) (bg en : Int) (mv : List Mv) (h : Cur W p bg en mv m w) (hm : m ≤ 100000) (hs : s < m) (hl : mv.length ≤ 100000) :
    Calls Try.prog 87 #[.pointer (some ⟨p, 0, none⟩), .int .i64 s, .int .i64 d] w fun e w' => e = .returned (.tuple #[]) ∧ Cur W p bg en (mv ++ [(s, none, d)]) m w' ∧ Upd (MT w) w w' := by
  obtain ⟨Ms, h1, rfl, h3, h4, h5⟩ := h
  refine (free_any W w p Ms bg en s d h1 h5 hm hs (fun l hl' => Nat.le_trans (h4 l hl') hl)).mono ?_
  rintro e w' ⟨rfl, k1, k2, k3⟩
  refine ⟨rfl, ⟨_, k1, addM_len _ _ _, fun s' o d' => (hasM_add hs).trans ?_, fun l hl' => by rw [List.length_append]; exact addM_small h4 l hl', k2⟩, k3⟩
  rw [h3, List.mem_append]
  simp

theorem box_at {w w' : World} {k n : Int} {s : Value} {b : Nat} (h : Upd (MT w) w w') (hb : w.heap[b]? = some (.cells #[.int .i64 k, .int .i64 n, s] 30 (0, 0))) : w'.heap[b]? = some (.cells #[.int .i64 k, .int .i64 n, s] 30 (0, 0)) := mt_block h hb (by decide)

/-- what a move laid behind a state meets -/
theorem mach_open {W w : World} {p s : Nat} {Ms : List (List Mo)} {bg en : Int} (h : MachAt W w p Ms bg en) (hW : Ext W w) (hs : s < Ms.length) :
    ∃ (x : SlV) (l : List Mo) (g c : Nat) (A2 : Option Addr) (c2 : Nat), Ms[s]? = some l ∧ slv x = .slice A2 l.length c2 ∧ rowF elM W.heap.size l (slv x) w ∧
      (∀ pw : UW (fun b => (slv x).ownBlock = some b) w, pw.val.cell? ⟨p, 0, none⟩ = some (.slice (some ⟨g, 0, none⟩) Ms.length c)) ∧
      (∀ pw : UW (fun b => (slv x).ownBlock = some b) w, pw.val.cell? ⟨g, s, none⟩ = some (.slice A2 l.length c2)) ∧
      (∃ cur, w.heap[g]? = some (.cells cur 112 (0, 0))) ∧ (slv x).ownBlock ≠ some g ∧ (∀ b, (slv x).ownBlock = some b → W.heap.size ≤ b) ∧ (slv x).ownBlock ≠ some p ∧ p < w.heap.size ∧
      (∀ (mv : Mo) (w1 : World) (A1 : Option Addr) (n1 c1 : Nat), Upd (fun b => (slv x).ownBlock = some b) w w1 → rowF elM W.heap.size (l ++ [mv]) (.slice A1 n1 c1) w1 →
        ((Value.slice A1 n1 c1).ownBlock = (slv x).ownBlock ∨ ∀ b, (Value.slice A1 n1 c1).ownBlock = some b → w.heap.size ≤ b) →
        MachAt W (w1.setCell ⟨g, s, none⟩ (.slice A1 n1 c1)) p (addM Ms s mv) bg en ∧ Ext W (w1.setCell ⟨g, s, none⟩ (.slice A1 n1 c1)) ∧ Upd (MT w) w (w1.setCell ⟨g, s, none⟩ (.slice A1 n1 c1))) := by
  obtain ⟨hp, A, c, Vs, h1, h2, h3, h4, h5⟩ := h
  have hsv : s < Vs.length := by omega
  obtain ⟨x, hx⟩ : ∃ x, Vs[s]? = some x := ⟨_, List.getElem?_eq_getElem hsv⟩
  obtain ⟨l, hlm⟩ : ∃ l, Ms[s]? = some l := ⟨_, List.getElem?_eq_getElem hs⟩
  have h4x := h4 s x l hx hlm
  obtain ⟨g, hg, lg⟩ := rowE_some h2.1 (fun e => by rw [e] at hsv; simp at hsv)
  have HM := fun (mv : Mo) (w1 : World) (A1 : Option Addr) (n1 c1 : Nat) hu hr hat => mach_add (w1 := w1) (mv := mv) (A1 := A1) (n1 := n1) (c1 := c1) hp h1 h2 h3 h4 h5 hg hx hlm hu hr hat hW
  subst hg
  have hpx : (slv x).ownBlock ≠ some p := rowE_off h4x.1 h1 (by decide)
  have hgx : (slv x).ownBlock ≠ some g := fun e => el_apart h4x.1 h2.1 (by decide) e rfl
  obtain ⟨A2, c2, hx2⟩ := rowE_form h4x.1
  have qs : w.cell? ⟨g, s, none⟩ = some (slv x) := by
    have := rowE_cell h2.1 hx (j := 0) (u := slv x) rfl
    simpa [elV] using this
  obtain ⟨_, cur, hgb⟩ := rowE_block h2.1 (show (Value.slice (some ⟨g, 0, none⟩) Vs.length c).ownBlock = some g from rfl)
  refine ⟨x, l, g, c, A2, c2, hlm, hx2, h4x, by rw [← h3]; exact uw_cell (block_cell h1 0) hpx, by rw [← hx2]; exact uw_cell qs hgx, ⟨cur, hgb⟩, hgx, h4x.2, hpx, block_lt h1, HM⟩
theorem uw_ext {fp : Nat → Prop} {W w : World} (hW : Ext W w) (hfp : ∀ b, fp b → W.heap.size ≤ b) (p : UW fp w) : Ext W p.val :=
  ext_of_upd (upd_trans (upd_of_ext (fp := fun _ => False) hW) p.ok (fun i hi e => by have := hfp i e; omega))

set_option maxRecDepth 100000 in
theorem lay_step (k n : Int) (hk : k = 0 ∨ k = 1) (v : Value) (W w : World) (p m s : Nat) (bg en : Int) (mv : List Mv) (hv : PV W (.node k n []) v) (h : Cur W p bg en mv m w) (hs : s < m) (hm : m ≤ 90000) (hl : mv.length ≤ 90000) :
    Calls Try.prog 59 #[.pointer (some ⟨p, 0, none⟩), v, .int .i64 s] w fun e w' => e = .returned (.int .i64 m) ∧ Cur W p bg en (mv ++ [(s, some (n, decide (k = 1)), m)]) (m + 1) w' ∧ Upd (MT w) w w' := by
  have HV := Lib.hid hv
  obtain ⟨sv, rfl, hsv⟩ := hv
  obtain ⟨A0, c0, rfl⟩ := PS_form hsv
  clear hsv
  have HC := Lib.hid h
  have HK := Lib.hid hk
  have hkk : ∃ kb : Bool, (k == 0 || k == 1) = true := ⟨true, by rcases hk with rfl | rfl <;> rfl⟩
  clear h hkk
  have hE0 := Lib.hid (show Ext w (w.alloc (.cells #[.int .i64 k, .int .i64 n, .slice A0 ([] : List Tr).length c0] 30)) from ext_alloc (ext_refl _) _)
  have hB0 := Lib.hid (heap_alloc_new w (.cells #[.int .i64 k, .int .i64 n, .slice A0 ([] : List Tr).length c0] 30))
  have h01 : (k == 0) = true ∨ (k == 0) = false ∧ (k == 1) = true := by rcases hk with rfl | rfl <;> simp
  clear hk
  go_enter Try.func59, Try.ntmps59
  rcases h01 with h0 | ⟨h0, h1⟩
  all_goals
    go_wp2_with fail
    refine (state_cur W _ p m bg en mv (cur_ext HC.out hE0.out) (by omega)).mono ?_
    rintro e w2 ⟨rfl, hc2, hu2⟩
    have HU2 := Lib.hid (mt_trans (mt_ext hE0.out) hu2)
    have HB2 := Lib.hid (box_at hu2 hB0.out)
    have HC2 := Lib.hid hc2
    clear hc2 hu2
    go_wp2
    obtain ⟨Ms, hM, hML, hMH, hMS, hMW⟩ := HC2.out
    obtain ⟨x, l, g, c, A2, c2, hls, hx2, h4x, q0, q1, ⟨cur, hgb⟩, hgx, hfp, hpx, lp, HMm⟩ := mach_open hM hMW (by omega : s < Ms.length)
    have hln := hMS l (List.mem_of_getElem? hls)
    have HX2 := Lib.hid hx2
    have H4 := Lib.hid h4x
    have HG := Lib.hid hgb
    have HGX := Lib.hid hgx
    have HM := Lib.hid HMm
    have HMH := Lib.hid hMH
    have HMS := Lib.hid hMS
    have HML := Lib.hid hML
    have HMW := Lib.hid hMW
    have HFP := Lib.hid hfp
    have hbx : (slv x).ownBlock ≠ some w.heap.size := fun e => by
      obtain ⟨_, cu, h9⟩ := rowE_block h4x.1 e
      rw [HB2.out] at h9
      simp only [Option.some.injEq, Obj.cells.injEq] at h9
      exact absurd h9.2.1 (by decide)
    have b0 : ∀ pw : UW (fun b => (slv x).ownBlock = some b) w2, pw.val.cell? ⟨w.heap.size, 0, none⟩ = some (.int .i64 k) := uw_cell (block_cell HB2.out 0) hbx
    have b1 : ∀ pw : UW (fun b => (slv x).ownBlock = some b) w2, pw.val.cell? ⟨w.heap.size, 1, none⟩ = some (.int .i64 n) := uw_cell (block_cell HB2.out 1) hbx
    have b2 : ∀ pw : UW (fun b => (slv x).ownBlock = some b) w2, pw.val.cell? ⟨w.heap.size, 2, none⟩ = some (.slice A0 0 c0) := uw_cell (block_cell HB2.out 2) hbx
    have hsi : (s : Int) < (Ms.length : Int) := by omega
    have hmsl : Ms.length ≤ 100000 := by omega
    have hsi0 : (0 : Int) ≤ (s : Int) := by omega
    have HSY := Lib.hid (fun pw : UW (fun b => (slv x).ownBlock = some b) w2 => symbol_any k n [] _ pw.val (PV_ext HV.out (uw_ext hMW hfp pw)) HK.out)
    clear hls hx2 h4x hgb hgx HMm hMH hMS hML hMW hfp hpx hbx hM
    refine wp_region_upd (fp := fun b => (slv x).ownBlock = some b) [] [0, 1, 2, 3, 4, 5, 6, 7, 8, 9, 10, 11, 12, 13, 14, 15] [(16, oneF elM w2.heap.size (some (n, decide (k = 1)), m))] 17 (fun v w' => rowF elM W.heap.size (l ++ [(some (n, decide (k = 1)), m)]) v w' ∧ (v.ownBlock = (slv x).ownBlock ∨ ∀ b, v.ownBlock = some b → w2.heap.size ≤ b)) [18, 19] [16, 17] rfl (by kernel_rfl) (by kernel_rfl) (by kernel_rfl) (fun _ _ d _ _ h => by cases d <;> exact h) ?_
    refine wpPre_nil ?_
    repeat (refine wpU_step rfl (fun K hK => ?_); (try simp only [Oper.quietAt, Oper.quietUpon]); go_simp; first | (refine hK _ ?_; clear hK K) | (apply Exists.intro; refine ⟨fun p => ?_, hK _ ?_⟩; (go_at_call 80; exact HSY.out p); clear hK K))
    refine wpU_nil ?_
    refine wpGen_step rfl rfl oneF_ext (fun w6 hE6 hS6 => ?_) (fun v0 => ?_)
    · simp only [runsAt]
      go_simp
      exact ⟨ext_alloc (ext_refl _) _, _, rfl, ext_size hE6, heap_alloc_new w6 _⟩
    refine wpGen_nil ?_
    refine ⟨⟨_, rfl, rfl, fun v a b hE hR => ⟨rowF_ext _ _ _ hE hR.1, hR.2⟩⟩, fun w6 hE6 hS6 o ho => ?_, fun o ho v w6 hU6 hR6 => ?_⟩
    · cases ho
      have hone : oneF elM w2.heap.size (some (n, decide (k = 1)), m) v0 w6 := hS6 _ (List.mem_cons_self ..)
      refine runs_append (sv := .slice A2 l.length c2) (xv := v0) (.tmp 35) (.tmp 40) rfl rfl rfl ?_
      rw [← HX2.out]
      obtain ⟨v', w', hrun, hr, hg, hat⟩ := append_at tpM 112 W.heap.size (slv x) v0 l [(some (n, decide (k = 1)), m)] w6 (rowF_ext _ _ _ hE6 H4.out) (srcOf_one hone) (by simp; omega) (Nat.le_trans (ext_size HMW.out) (ext_size hE6))
      refine ⟨v', w', hrun, upd_grown hg, hr, ?_⟩
      rcases hat with h | h
      · exact .inl h
      · exact .inr (fun b hb => by rw [h] at hb; cases hb; exact ext_size hE6)
    · cases ho
      obtain ⟨A1, c1, hv1⟩ := rowE_form hR6.1.1
      subst hv1
      obtain ⟨hm1, hm2, hm3⟩ := HM.out _ w6 A1 _ c1 hU6 hR6.1 hR6.2
      obtain ⟨n1, hn1⟩ : ∃ n1, n1 = (l ++ [((some (n, decide (k = 1)), m) : Mo)]).length := ⟨_, rfl⟩
      rw [← hn1] at hm1 hm2 hm3 ⊢
      have HM1 := Lib.hid hm1
      have HM2 := Lib.hid hm2
      have HM3 := Lib.hid (mt_trans HU2.out hm3)
      have hgb6 := (hU6.block g (block_lt HG.out) HGX.out).trans HG.out
      have qf := block_frozen hgb6 s
      have lg6 := block_lt hgb6
      have q2 : w6.cell? ⟨g, s, none⟩ = some (.slice A2 l.length c2) := q1 ⟨w6, hU6⟩
      clear hm1 hm2 hm3 hR6 hU6 hgb6 q0 q1 hn1 b0 b1 b2
      refine wpSeq_of_list [18, 19] [_, _] _ _ rfl ?_
      go_wp2
      refine bodyPost_ret (results_tmp rfl _ _ _) rfl ?_
      refine ⟨rfl, ⟨_, HM1.out, (addM_len _ _ _).trans HML.out, fun s' o d' => (hasM_add (by omega)).trans ?_, fun l hl' => by rw [List.length_append]; exact addM_small HMS.out l hl', HM2.out⟩, HM3.out⟩
      rw [HMH.out, List.mem_append]
      simp
end Go.Proofs.Ytiabmdboacpmcaa
/- lay, of paths one behind the other. -/
namespace Go.Proofs.Ytiabmdboacpmcaa
open Go Go.RowKit Go.Sort
set_option maxHeartbeats 1000000

def LayAt (N : Nat) : Prop := ∀ (t : Tr) (v : Value) (W w : World) (p m s : Nat) (bg en : Int) (mv : List Mv), sizeT t ≤ N → Form t → PV W t v → Cur W p bg en mv m w → s < m → m + 3 * sizeT t ≤ 90000 → mv.length + 5 * sizeT t ≤ 90000 →
  Calls Try.prog 59 #[.pointer (some ⟨p, 0, none⟩), v, .int .i64 s] w fun e w' => e = .returned (.int .i64 (gen t m s).last) ∧ Cur W p bg en (mv ++ (gen t m s).moves) (gen t m s).many w' ∧ Upd (MT w) w w'
theorem take_snocT {ps : List Tr} {j : Nat} {q : Tr} (h : ps[j]? = some q) : ps.take (j + 1) = ps.take j ++ [q] := by
  rw [List.take_add_one, h]; rfl
theorem sizeL_takeLe (ps : List Tr) (j : Nat) : sizeL (ps.take j) ≤ sizeL ps := by
  induction ps generalizing j with
  | nil => simp [sizeL]
  | cons p r ih =>
    cases j with
    | zero => simp [sizeL]
    | succ j =>
      have := ih j
      rw [List.take_succ_cons, sizeL, sizeL]
      omega
theorem sizeL_takeAdd {ps : List Tr} {j : Nat} {q : Tr} (h : ps[j]? = some q) : sizeL (ps.take j) + sizeT q ≤ sizeL ps := by
  induction ps generalizing j with
  | nil => simp at h
  | cons p r ih =>
    cases j with
    | zero =>
      simp only [List.getElem?_cons_zero, Option.some.injEq] at h
      subst h
      simp [sizeL]
    | succ j =>
      have := ih (j := j) (by simpa using h)
      rw [List.take_succ_cons, sizeL, sizeL]
      omega
theorem cur_W {W w : World} {p m : Nat} {bg en : Int} {mv : List Mv} (h : Cur W p bg en mv m w) : Ext W w := by
  obtain ⟨_, _, _, _, _, h5⟩ := h
  exact h5

set_option maxRecDepth 100000 in
theorem lay_seq {N : Nat} (hd : LayAt N) (n : Int) (ps : List Tr) (v : Value) (W w : World) (p m s : Nat) (bg en : Int) (mv : List Mv) (hN : sizeL ps ≤ N) (hf : FormL ps) (hv : PV W (.node 2 n ps) v) (h : Cur W p bg en mv m w) (hs : s < m) (hm : m + 3 * sizeL ps ≤ 90000) (hl : mv.length + 5 * sizeL ps ≤ 90000) :
    Calls Try.prog 59 #[.pointer (some ⟨p, 0, none⟩), v, .int .i64 s] w fun e w' => e = .returned (.int .i64 (genSeq ps m s).last) ∧ Cur W p bg en (mv ++ (genSeq ps m s).moves) (genSeq ps m s).many w' ∧ Upd (MT w) w w' := by
  obtain ⟨sv, rfl, hsv⟩ := hv
  have HS := Lib.hid hsv
  obtain ⟨A0, c0, rfl⟩ := PS_form hsv
  have hlen := sizeL_len ps
  have HC := Lib.hid h
  have HF := Lib.hid hf
  have HD := Lib.hid hd
  clear h hsv hf hd
  obtain ⟨w1, hw1⟩ : ∃ w1, w1 = w.alloc (.cells #[.int .i64 2, .int .i64 n, .slice A0 ps.length c0] 30) := ⟨_, rfl⟩
  have hE0 := Lib.hid (show Ext w w1 by rw [hw1]; exact ext_alloc (ext_refl _) _)
  have hB0 := Lib.hid (show w1.heap[w.heap.size]? = some (.cells #[.int .i64 2, .int .i64 n, .slice A0 ps.length c0] 30 (0, 0)) by rw [hw1]; exact heap_alloc_new w _)
  go_enter Try.func59, Try.ntmps59
  go_wp2
  rw [← hw1]
  clear hw1
  go_loopw [49, 2] (fun x y wr => ∃ j : Nat, j ≤ ps.length ∧ x = .int .i64 j ∧ y = .int .i64 (genSeq (ps.take j) m s).last ∧ Cur W p bg en (mv ++ (genSeq (ps.take j) m s).moves) (genSeq (ps.take j) m s).many wr ∧ Upd (MT w) w wr) (fun x _ _ => ps.length - (intOf x).toNat)
  case atStart => exact ⟨0, Nat.zero_le _, rfl, by rw [List.take_zero, genSeq], by rw [List.take_zero, genSeq, List.append_nil]; exact cur_ext HC.out hE0.out, mt_ext hE0.out⟩
  case round =>
    rename World => wo
    obtain ⟨j, hj, rfl, rfl, hc, hu⟩ := hrel
    have HCJ := Lib.hid hc
    have HUJ := Lib.hid hu
    clear hc hu
    by_cases hlt : j < ps.length
    · have hji : (j : Int) < (ps.length : Int) := by omega
      have hj0 : (0 : Int) ≤ (j : Int) := by omega
      obtain ⟨q, hq⟩ : ∃ q, ps[j]? = some q := ⟨_, List.getElem?_eq_getElem hlt⟩
      have HQ := Lib.hid hq
      obtain ⟨b, o, rfl, hb, hpt⟩ := PS_at (PS_ext HS.out (cur_W HCJ.out)) hq
      have hsz := sizeL_takeAdd hq
      have hqf := form_mem HF.out (List.mem_of_getElem? hq)
      have hqs := sizeL_mem (List.mem_of_getElem? hq)
      have HQF := Lib.hid hqf
      have HSN := Lib.hid (take_snocT hq)
      have hgs := genSeq_size (ps.take j) m s (genSeq_sizeT ps m s j HF.out)
      have hpl := partS_ok (ps.take j) m s (genSeq_sizeT ps m s j HF.out) hs
      obtain ⟨a, ha⟩ : ∃ a, a = genSeq (ps.take j) m s := ⟨_, rfl⟩
      rw [← ha] at hgs hpl HCJ ⊢
      have hlast : a.last < a.many := by
        rcases hpl.last with ⟨_, h⟩ | ⟨_, _, h⟩
        · rw [h]; have := hpl.le; omega
        · exact h
      have HA := Lib.hid ha
      have hb1 : a.many + 3 * sizeT q ≤ 90000 := by omega
      have hb2 : (mv ++ a.moves).length + 5 * sizeT q ≤ 90000 := by rw [List.length_append]; omega
      have hb3 : sizeT q ≤ N := by omega
      have HPS := Lib.hid (PS_at HS.out hq)
      clear hq ha hpl hgs hsz hqf hqs
      cases q with
      | node k' n' qs =>
        obtain ⟨s2, q0, q1, q2, hs2, _⟩ := PT_val hpt
        obtain ⟨A1, c1, rfl⟩ := PS_form hs2
        obtain ⟨b', o', hbo, _, hptW⟩ := HPS.out
        simp only [Option.some.injEq, Addr.mk.injEq, and_true] at hbo
        obtain ⟨rfl, rfl⟩ := hbo
        obtain ⟨s3, r0, r1, r2, hs3, _⟩ := PT_val hptW
        have e3 : s3 = .slice A1 qs.length c1 := by
          have := (ext_cell (cur_W HCJ.out) _ _ (World.block_lt_of_cell? _ _ r2)).trans r2
          rw [q2] at this
          exact (Option.some.inj this).symm
        subst e3
        have HPV := Lib.hid (show PV W (.node k' n' qs) (.agg #[.int .i64 k', .int .i64 n', .slice A1 qs.length c1]) from ⟨_, rfl, hs3⟩)
        clear hpt hs2 hs3 hptW r0 r1 r2
        go_wp2_with fail
        refine (HD.out (.node k' n' qs) _ W _ p a.many a.last bg en (mv ++ a.moves) hb3 HQF.out HPV.out (cur_ext HCJ.out (ext_alloc (ext_refl _) _)) hlast hb1 hb2).mono ?_
        rintro e w2 ⟨rfl, hc2, hu2⟩
        have HC2 := Lib.hid hc2
        have HU2 := Lib.hid (mt_trans (mt_trans HUJ.out (mt_ext (ext_alloc (ext_refl _) _))) hu2)
        clear hc2 hu2
        go_wp2
        go_roundw
        case rel => exact ⟨j + 1, by omega, by go_num, by rw [HSN.out, genSeq_snoc, ← HA.out], by rw [HSN.out, genSeq_snoc, ← HA.out, ← List.append_assoc]; exact HC2.out, HU2.out⟩
        case measure => simp [intOf]; omega
    · obtain rfl : j = ps.length := by omega
      rw [List.take_length] at HCJ ⊢
      go_wp2
      refine bodyPost_ret (results_tmp rfl _ _ _) rfl ?_
      exact ⟨rfl, HCJ.out, HUJ.out⟩
end Go.Proofs.Ytiabmdboacpmcaa
/- lay, of one of some paths, and of paths gone again. -/
namespace Go.Proofs.Ytiabmdboacpmcaa
open Go Go.RowKit Go.Sort
set_option maxHeartbeats 1000000

set_option maxRecDepth 100000 in
theorem lay_alt {N : Nat} (hd : LayAt N) (n : Int) (ps : List Tr) (v : Value) (W w : World) (p m s : Nat) (bg en : Int) (mv : List Mv) (hN : sizeL ps ≤ N) (hf : FormL ps) (hv : PV W (.node 3 n ps) v) (h : Cur W p bg en mv m w) (hs : s < m) (hm : m + 3 + 3 * sizeL ps ≤ 90000) (hl : mv.length + 5 + 5 * sizeL ps ≤ 90000) :
    Calls Try.prog 59 #[.pointer (some ⟨p, 0, none⟩), v, .int .i64 s] w fun e w' => e = .returned (.int .i64 m) ∧ Cur W p bg en (mv ++ (genAlt ps (m + 1) s m).1) (genAlt ps (m + 1) s m).2 w' ∧ Upd (MT w) w w' := by
  obtain ⟨sv, rfl, hsv⟩ := hv
  have HS := Lib.hid hsv
  obtain ⟨A0, c0, rfl⟩ := PS_form hsv
  have hlen := sizeL_len ps
  have HC := Lib.hid h
  have HF := Lib.hid hf
  have HD := Lib.hid hd
  clear h hsv hf hd
  obtain ⟨w1, hw1⟩ : ∃ w1, w1 = w.alloc (.cells #[.int .i64 3, .int .i64 n, .slice A0 ps.length c0] 30) := ⟨_, rfl⟩
  have hE0 := Lib.hid (show Ext w w1 by rw [hw1]; exact ext_alloc (ext_refl _) _)
  have hB0 := Lib.hid (show w1.heap[w.heap.size]? = some (.cells #[.int .i64 3, .int .i64 n, .slice A0 ps.length c0] 30 (0, 0)) by rw [hw1]; exact heap_alloc_new w _)
  go_enter Try.func59, Try.ntmps59
  go_wp2_with fail
  rw [← hw1]
  clear hw1
  refine (state_cur W _ p m bg en mv (cur_ext HC.out hE0.out) (by omega)).mono ?_
  rintro e w2 ⟨rfl, hc2, hu2⟩
  have HU2 := Lib.hid (mt_trans (mt_ext hE0.out) hu2)
  have HB2 := Lib.hid (box_at hu2 hB0.out)
  have HC2 := Lib.hid hc2
  have b2 : w2.cell? ⟨w.heap.size, 2, none⟩ = some (.slice A0 ps.length c0) := block_cell HB2.out 2
  have lb2 := block_lt HB2.out
  clear hc2 hu2
  go_wp2
  clear b2 lb2
  go_loopw [66] (fun x wr => ∃ j : Nat, j ≤ ps.length ∧ x = .int .i64 j ∧ Cur W p bg en (mv ++ (genAlt (ps.take j) (m + 1) s m).1) (genAlt (ps.take j) (m + 1) s m).2 wr ∧ Upd (MT w) w wr) (fun x _ => ps.length - (intOf x).toNat)
  case atStart => exact ⟨0, Nat.zero_le _, rfl, by rw [List.take_zero, genAlt, List.append_nil]; exact HC2.out, HU2.out⟩
  case round =>
    rename World => wo
    obtain ⟨j, hj, rfl, hc, hu⟩ := hrel
    have HCJ := Lib.hid hc
    have HUJ := Lib.hid hu
    clear hc hu
    by_cases hlt : j < ps.length
    · have hji : (j : Int) < (ps.length : Int) := by omega
      have hj0 : (0 : Int) ≤ (j : Int) := by omega
      obtain ⟨q, hq⟩ : ∃ q, ps[j]? = some q := ⟨_, List.getElem?_eq_getElem hlt⟩
      have HQ := Lib.hid hq
      obtain ⟨b, o, rfl, hb, hpt⟩ := PS_at (PS_ext HS.out (cur_W HCJ.out)) hq
      have hsz := sizeL_takeAdd hq
      have hqf := form_mem HF.out (List.mem_of_getElem? hq)
      have hqs := sizeL_mem (List.mem_of_getElem? hq)
      have HQF := Lib.hid hqf
      have HSN := Lib.hid (take_snocT hq)
      have hgs := genAlt_size (ps.take j) (m + 1) s m (genSeq_sizeT ps m s j HF.out)
      obtain ⟨a, ha⟩ : ∃ a, a = genAlt (ps.take j) (m + 1) s m := ⟨_, rfl⟩
      rw [← ha] at hgs HCJ
      have HA := Lib.hid ha
      have hq1 := sizeT_pos q
      have hg2 := gen_size q (a.2 + 1) a.2 hqf
      have hp2 := (part_ok q (a.2 + 1) a.2 hqf (Nat.lt_succ_self _)).last2
      have hb0 : a.2 ≤ 90000 := by omega
      have hb1 : a.2 + 1 + 3 * sizeT q ≤ 90000 := by omega
      have hb2 : (mv ++ a.1 ++ [(s, none, a.2)]).length + 5 * sizeT q ≤ 95000 := by rw [List.length_append, List.length_append]; simp; omega
      have hb3 : sizeT q ≤ N := by omega
      have hb4 : s < a.2 + 1 := by omega
      have hb5 : (mv ++ a.1).length ≤ 100000 := by rw [List.length_append]; omega
      have HPS := Lib.hid (PS_at HS.out hq)
      clear hq ha hqf hqs
      obtain ⟨r, hr⟩ : ∃ r, r = gen q (a.2 + 1) a.2 := ⟨_, rfl⟩
      rw [← hr] at hg2 hp2
      have HR := Lib.hid hr
      have hb6 : r.many ≤ 100000 := by omega
      have hb7 : ((mv ++ a.1 ++ [(s, none, a.2)]) ++ r.moves).length ≤ 100000 := by rw [List.length_append]; omega
      have hb8 : (mv ++ a.1 ++ [(s, none, a.2)]).length + 5 * sizeT q ≤ 90000 := by rw [List.length_append, List.length_append]; simp; omega
      clear hr hgs hsz hg2 hb2
      cases q with
      | node k' n' qs =>
        obtain ⟨s2, q0, q1, q2, hs2, _⟩ := PT_val hpt
        obtain ⟨A1, c1, rfl⟩ := PS_form hs2
        obtain ⟨b', o', hbo, _, hptW⟩ := HPS.out
        simp only [Option.some.injEq, Addr.mk.injEq, and_true] at hbo
        obtain ⟨rfl, rfl⟩ := hbo
        obtain ⟨s3, r0, r1, r2, hs3, _⟩ := PT_val hptW
        have e3 : s3 = .slice A1 qs.length c1 := by
          have := (ext_cell (cur_W HCJ.out) _ _ (World.block_lt_of_cell? _ _ r2)).trans r2
          rw [q2] at this
          exact (Option.some.inj this).symm
        subst e3
        have HPV := Lib.hid (show PV W (.node k' n' qs) (.agg #[.int .i64 k', .int .i64 n', .slice A1 qs.length c1]) from ⟨_, rfl, hs3⟩)
        clear hpt hs2 hs3 hptW r0 r1 r2
        go_wp2_with fail
        have hEb : Ext wo (wo.alloc (.cells #[.int .i64 k', .int .i64 n', .slice A1 qs.length c1] 30)) := ext_alloc (ext_refl _) _
        have hBb := heap_alloc_new wo (.cells #[.int .i64 k', .int .i64 n', .slice A1 qs.length c1] 30)
        refine (state_cur W _ p a.2 bg en (mv ++ a.1) (cur_ext HCJ.out hEb) (by omega)).mono ?_
        rintro e w3 ⟨rfl, hc3, hu3⟩
        have HC3 := Lib.hid hc3
        have HU3 := Lib.hid (mt_trans (mt_trans HUJ.out (mt_ext hEb)) hu3)
        have HB3 := Lib.hid (box_at hu3 hBb)
        clear hc3 hu3 hEb hBb q0 q1 q2
        go_wp2_with fail
        refine (free_cur W _ p (a.2 + 1) s a.2 bg en (mv ++ a.1) HC3.out (by omega) hb4 hb5).mono ?_
        rintro e w4 ⟨rfl, hc4, hu4⟩
        have HC4 := Lib.hid hc4
        have HU4 := Lib.hid (mt_trans HU3.out hu4)
        have HB4 := Lib.hid (box_at hu4 HB3.out)
        clear hc4 hu4
        have d0 := block_cell HB4.out 0
        have d1 := block_cell HB4.out 1
        have d2 := block_cell HB4.out 2
        have lb4 := block_lt HB4.out
        simp at d0 d1 d2
        go_wp2_with fail
        refine (HD.out (.node k' n' qs) _ W _ p (a.2 + 1) a.2 bg en (mv ++ a.1 ++ [(s, none, a.2)]) hb3 HQF.out HPV.out HC4.out (Nat.lt_succ_self _) hb1 hb8).mono ?_
        rw [← HR.out]
        rintro e w5 ⟨rfl, hc5, hu5⟩
        have HC5 := Lib.hid hc5
        have HU5 := Lib.hid (mt_trans HU4.out hu5)
        clear hc5 hu5 d0 d1 d2 lb4
        go_wp2_with fail
        refine (free_cur W _ p r.many r.last m bg en _ HC5.out (by omega) hp2 hb7).mono ?_
        rintro e w6 ⟨rfl, hc6, hu6⟩
        have HC6 := Lib.hid hc6
        have HU6 := Lib.hid (mt_trans HU5.out hu6)
        clear hc6 hu6
        go_wp2
        go_roundw
        case rel =>
          refine ⟨j + 1, by omega, by go_num, ?_, HU6.out⟩
          rw [HSN.out, genAlt_snoc, ← HA.out, ← HR.out]
          have := HC6.out
          simpa [List.append_assoc] using this
        case measure => simp [intOf]; omega
    · obtain rfl : j = ps.length := by omega
      rw [List.take_length] at HCJ
      go_wp2
      refine bodyPost_ret (results_tmp rfl _ _ _) rfl ?_
      exact ⟨rfl, HCJ.out, HUJ.out⟩

set_option maxRecDepth 100000 in
theorem lay_loop {N : Nat} (hd : LayAt N) (k n : Int) (hk : k = 4 ∨ k = 5 ∨ k = 6) (q : Tr) (v : Value) (W w : World) (p m s : Nat) (bg en : Int) (mv : List Mv) (hN : sizeT q ≤ N) (hf : Form q) (hv : PV W (.node k n [q]) v) (h : Cur W p bg en mv m w) (hs : s < m) (hm : m + 2 + 3 * sizeT q ≤ 90000) (hl : mv.length + 1 + 5 * sizeT q ≤ 90000) :
    Calls Try.prog 59 #[.pointer (some ⟨p, 0, none⟩), v, .int .i64 s] w fun e w' => e = .returned (.int .i64 (m + 1 : Nat)) ∧ Cur W p bg en (mv ++ (gen (.node k n [q]) m s).moves) (gen (.node k n [q]) m s).many w' ∧ Upd (MT w) w w' := by
  obtain ⟨sv, rfl, hsv⟩ := hv
  obtain ⟨A0, c0, rfl⟩ := PS_form hsv
  have HS := Lib.hid hsv
  have hgen : gen (.node k n [q]) m s = ⟨(s, none, m) :: ((gen q (m + 2) m).moves ++ (((gen q (m + 2) m).last, none, m + 1) :: ((if k = 5 then [] else [(m, none, m + 1)]) ++ (if k = 6 then [] else [(m + 1, none, m)])))), (gen q (m + 2) m).many, m + 1⟩ := by
    rw [gen, if_neg (by omega), if_neg (by omega), if_neg (by omega), genOne]
  rw [hgen]
  obtain ⟨r, hr⟩ : ∃ r, r = gen q (m + 2) m := ⟨_, rfl⟩
  have hg2 := gen_size q (m + 2) m hf
  have hp2 := (part_ok q (m + 2) m hf (by omega)).last2
  rw [← hr] at hg2 hp2 ⊢
  have HR := Lib.hid hr
  have HC := Lib.hid h
  have HF := Lib.hid hf
  have HD := Lib.hid hd
  have hq1 := sizeT_pos q
  have hb1 : (mv ++ [(s, none, m)]).length + 5 * sizeT q ≤ 90000 := by rw [List.length_append]; simp; omega
  have hb2 : ((mv ++ [(s, none, m)]) ++ r.moves).length ≤ 90000 := by rw [List.length_append]; omega
  have hb3 : r.many ≤ 90000 := by omega
  have hb4 : m + 2 ≤ r.many := hg2.1
  have hmv : mv.length ≤ 90000 := by omega
  have hb5 : r.moves.length + mv.length ≤ 90000 := by omega
  have HSQ := Lib.hid (PS_at HS.out (show [q][0]? = some q from rfl))
  clear h hsv hf hd hr hgen hg2
  obtain ⟨b, o, rfl, hb, hptW⟩ := HSQ.out
  cases q with
  | node k' n' qs =>
    obtain ⟨s3, r0, r1, r2, hs3, _⟩ := PT_val hptW
    obtain ⟨A1, c1, rfl⟩ := PS_form hs3
    have HPV := Lib.hid (show PV W (.node k' n' qs) (.agg #[.int .i64 k', .int .i64 n', .slice A1 qs.length c1]) from ⟨_, rfl, hs3⟩)
    have HR0 := Lib.hid r0
    have HR1 := Lib.hid r1
    have HR2 := Lib.hid r2
    simp only [Nat.zero_mul, Nat.add_zero] at HR0 HR1 HR2
    clear hs3 hptW r0 r1 r2 HSQ
    obtain ⟨w1, hw1⟩ : ∃ w1, w1 = w.alloc (.cells #[.int .i64 k, .int .i64 n, .slice (some ⟨b, o, none⟩) 1 c0] 30) := ⟨_, rfl⟩
    have hE0 := Lib.hid (show Ext w w1 by rw [hw1]; exact ext_alloc (ext_refl _) _)
    have hB0 := Lib.hid (show w1.heap[w.heap.size]? = some (.cells #[.int .i64 k, .int .i64 n, .slice (some ⟨b, o, none⟩) 1 c0] 30 (0, 0)) by rw [hw1]; exact heap_alloc_new w _)
    rcases hk with rfl | rfl | rfl
    all_goals
      go_enter Try.func59, Try.ntmps59
      go_wp2_with fail
      rw [← hw1]
      clear hw1
      refine (state_cur W _ p m bg en mv (cur_ext HC.out hE0.out) (by omega)).mono ?_
      rintro e w2 ⟨rfl, hc2, hu2⟩
      have HU2 := Lib.hid (mt_trans (mt_ext hE0.out) hu2)
      have HB2 := Lib.hid (box_at hu2 hB0.out)
      have HC2 := Lib.hid hc2
      clear hc2 hu2
      go_wp2_with fail
      refine (state_cur W _ p (m + 1) bg en mv HC2.out (by omega)).mono ?_
      rintro e w3 ⟨rfl, hc3, hu3⟩
      have HU3 := Lib.hid (mt_trans HU2.out hu3)
      have HB3 := Lib.hid (box_at hu3 HB2.out)
      have HC3 := Lib.hid hc3
      clear hc3 hu3
      go_wp2_with fail
      refine (free_cur W _ p (m + 1 + 1) s m bg en mv HC3.out (by omega) (by omega) (by omega)).mono ?_
      rintro e w4 ⟨rfl, hc4, hu4⟩
      have HU4 := Lib.hid (mt_trans HU3.out hu4)
      have HB4 := Lib.hid (box_at hu4 HB3.out)
      have HC4 := Lib.hid hc4
      clear hc4 hu4
      have d2 : w4.cell? ⟨w.heap.size, 2, none⟩ = some (.slice (some ⟨b, o, none⟩) 1 c0) := block_cell HB4.out 2
      have e0 : w4.cell? ⟨b, o, none⟩ = some (.int .i64 k') := (ext_cell (cur_W HC4.out) _ _ hb).trans HR0.out
      have e1 : w4.cell? ⟨b, o + 1, none⟩ = some (.int .i64 n') := (ext_cell (cur_W HC4.out) _ _ hb).trans HR1.out
      have e2 : w4.cell? ⟨b, o + 2, none⟩ = some (.slice A1 qs.length c1) := (ext_cell (cur_W HC4.out) _ _ hb).trans HR2.out
      have lb4 := block_lt HB4.out
      have lbb := ext_lt (cur_W HC4.out) hb
      go_wp2_with fail
      refine (HD.out (.node k' n' qs) _ W _ p (m + 2) m bg en (mv ++ [(s, none, m)]) hN HF.out HPV.out HC4.out (by omega) hm hb1).mono ?_
      rw [← HR.out]
      rintro e w5 ⟨rfl, hc5, hu5⟩
      have HU5 := Lib.hid (mt_trans HU4.out hu5)
      have HB5 := Lib.hid (box_at hu5 HB4.out)
      have HC5 := Lib.hid hc5
      clear hc5 hu5 d2 e0 e1 e2 lb4 lbb
      go_wp2_with fail
      refine (free_cur W _ p r.many r.last (m + 1) bg en _ HC5.out (by omega) hp2 (by omega)).mono ?_
      rintro e w6 ⟨rfl, hc6, hu6⟩
      have HU6 := Lib.hid (mt_trans HU5.out hu6)
      have HB6 := Lib.hid (box_at hu6 HB5.out)
      have HC6 := Lib.hid hc6
      clear hc6 hu6
      have d0 := block_cell HB6.out 0
      have lb6 := block_lt HB6.out
      simp at d0
    -- once or more, or not at all
    · go_wp2_with fail
      refine (free_cur W _ p r.many m (m + 1) bg en _ HC6.out (by omega) (by omega) (by rw [List.length_append]; simp; omega)).mono ?_
      rintro e w7 ⟨rfl, hc7, hu7⟩
      have HU7 := Lib.hid (mt_trans HU6.out hu7)
      have HB7 := Lib.hid (box_at hu7 HB6.out)
      have HC7 := Lib.hid hc7
      clear hc7 hu7 d0 lb6
      have d0 := block_cell HB7.out 0
      have lb7 := block_lt HB7.out
      simp at d0
      go_wp2_with fail
      refine (free_cur W _ p r.many (m + 1) m bg en _ HC7.out (by omega) (by omega) (by rw [List.length_append, List.length_append]; simp; omega)).mono ?_
      rintro e w8 ⟨rfl, hc8, hu8⟩
      have HU8 := Lib.hid (mt_trans HU7.out hu8)
      have HC8 := Lib.hid hc8
      clear hc8 hu8 d0 lb7
      go_wp2
      refine bodyPost_ret (results_tmp rfl _ _ _) rfl ?_
      exact ⟨rfl, by have := HC8.out; simpa [List.append_assoc] using this, HU8.out⟩
    -- once or more
    · go_wp2_with fail
      refine (free_cur W _ p r.many (m + 1) m bg en _ HC6.out (by omega) (by omega) (by rw [List.length_append]; simp; omega)).mono ?_
      rintro e w7 ⟨rfl, hc7, hu7⟩
      have HU7 := Lib.hid (mt_trans HU6.out hu7)
      have HC7 := Lib.hid hc7
      clear hc7 hu7 d0 lb6
      go_wp2
      refine bodyPost_ret (results_tmp rfl _ _ _) rfl ?_
      exact ⟨rfl, by have := HC7.out; simpa [List.append_assoc] using this, HU7.out⟩
    -- once, or not at all
    · go_wp2_with fail
      refine (free_cur W _ p r.many m (m + 1) bg en _ HC6.out (by omega) (by omega) (by rw [List.length_append]; simp; omega)).mono ?_
      rintro e w7 ⟨rfl, hc7, hu7⟩
      have HU7 := Lib.hid (mt_trans HU6.out hu7)
      have HB7 := Lib.hid (box_at hu7 HB6.out)
      have HC7 := Lib.hid hc7
      clear hc7 hu7 d0 lb6
      have d0 := block_cell HB7.out 0
      have lb7 := block_lt HB7.out
      simp at d0
      go_wp2
      refine bodyPost_ret (results_tmp rfl _ _ _) rfl ?_
      exact ⟨rfl, by have := HC7.out; simpa [List.append_assoc] using this, HU7.out⟩

theorem lay_all : ∀ N : Nat, LayAt N
  | 0 => fun t v W w p m s bg en mv hN => by have := sizeT_pos t; omega
  | N + 1 => fun t v W w p m s bg en mv hN hf hv h hs hm hl => by
    have hd := lay_all N
    cases t with
    | node k n ps =>
      rw [sizeT] at hN hm hl
      rw [Form] at hf
      rcases hf with ⟨hk, rfl, hn⟩ | ⟨hk, hne, hfl⟩ | ⟨hk, ⟨q, rfl⟩, hfl⟩
      · have e : gen (.node k n []) m s = ⟨[(s, some (n, decide (k = 1)), m)], m + 1, m⟩ := by rw [gen, if_pos hk]
        rw [e]
        exact lay_step k n hk v W w p m s bg en mv hv h hs (by omega) (by omega)
      · rcases hk with rfl | rfl
        · have e : gen (.node 2 n ps) m s = genSeq ps m s := by rw [gen, if_neg (by decide), if_pos rfl]
          rw [e]
          exact lay_seq hd n ps v W w p m s bg en mv (by omega) hfl hv h hs (by omega) (by omega)
        · have e : gen (.node 3 n ps) m s = ⟨(genAlt ps (m + 1) s m).1, (genAlt ps (m + 1) s m).2, m⟩ := by rw [gen, if_neg (by decide), if_neg (by decide), if_pos rfl]
          rw [e]
          exact lay_alt hd n ps v W w p m s bg en mv (by omega) hfl hv h hs (by omega) (by omega)
      · have e : (gen (.node k n [q]) m s).last = m + 1 := by rw [gen, if_neg (by omega), if_neg (by omega), if_neg (by omega)]
        have hs1 : sizeL [q] = sizeT q := by rw [sizeL, sizeL, Nat.add_zero]
        rw [hs1] at hN hm hl
        rw [FormL] at hfl
        rw [e]
        exact lay_loop hd k n hk q v W w p m s bg en mv (by omega) hfl.1 hv h hs (by omega) (by omega)
end Go.Proofs.Ytiabmdboacpmcaa
/- Compile. -/
namespace Go.Proofs.Ytiabmdboacpmcaa
open Go Go.RowKit Go.Sort
set_option maxHeartbeats 1000000

theorem cur_set1 {W w : World} {p m : Nat} {bg en : Int} {mv : List Mv} (h : Cur W p bg en mv m w) (b' : Int) : Cur W p b' en mv m (w.setCell ⟨p, 1, none⟩ (.int .i64 b')) ∧ p < w.heap.size ∧ (∃ A c n, w.heap[p]? = some (.cells #[.slice A n c, .int .i64 bg, .int .i64 en] 106 (0, 0))) ∧ W.heap.size ≤ p := by
  obtain ⟨Ms, ⟨hp, A, c, Vs, h1, h2, h3, h4, h5⟩, k2, k3, k4, k5⟩ := h
  refine ⟨⟨Ms, ⟨hp, A, c, Vs, ?_, upd_off h2 h1 (by decide), h3, fun i x l hx hl => upd_off (h4 i x l hx hl) h1 (by decide), h5⟩, k2, k3, k4, ext_set k5 hp _⟩, block_lt h1, ⟨A, c, _, h1⟩, hp⟩
  rw [heap_setCell_at h1]
  rfl
theorem cur_set2 {W w : World} {p m : Nat} {bg en : Int} {mv : List Mv} (h : Cur W p bg en mv m w) (b' : Int) : Cur W p bg b' mv m (w.setCell ⟨p, 2, none⟩ (.int .i64 b')) := by
  obtain ⟨Ms, ⟨hp, A, c, Vs, h1, h2, h3, h4, h5⟩, k2, k3, k4, k5⟩ := h
  refine ⟨Ms, ⟨hp, A, c, Vs, ?_, upd_off h2 h1 (by decide), h3, fun i x l hx hl => upd_off (h4 i x l hx hl) h1 (by decide), h5⟩, k2, k3, k4, ext_set k5 hp _⟩
  rw [heap_setCell_at h1]
  rfl
theorem cur_new (W w : World) (hW : Ext W w) : Cur W w.heap.size 0 0 [] 0 (w.alloc (.cells #[.slice none 0 0, .int .i64 0, .int .i64 0] 106)) :=
  ⟨[], ⟨ext_size hW, none, 0, [], heap_alloc_new _ _, rowF_nil _ _, rfl, fun i x l hx => by simp at hx, fun i j x y b _ hx => by simp at hx⟩, rfl, fun s o d => ⟨fun ⟨l, hl, _⟩ => (by simp at hl), fun h => (by cases h)⟩, fun l hl => (by cases hl), ext_alloc hW _⟩

/-- the machine of a path -/
def MachT (W w : World) (p : Nat) (t : Tr) : Prop := Cur W p 0 ((gen t 1 0).last : Int) (gen t 1 0).moves (gen t 1 0).many w ∧ Form t ∧ sizeT t ≤ 200
theorem machT_ext {W w w' : World} {p : Nat} {t : Tr} (h : MachT W w p t) (hE : Ext w w') : MachT W w' p t := ⟨cur_ext h.1 hE, h.2⟩
theorem chk_ok {t : Tr} (h : chk t = 0) : Form t ∧ sizeT t ≤ 200 := by
  rw [chk] at h
  split at h
  · split at h
    · cases h
    · split at h
      · rename_i h1 h2 h3; exact ⟨formB_iff t h3, by omega⟩
      · cases h
  · cases h

def CompNo (t : Tr) (w : World) (e : Ending) (w' : World) : Prop := e = .returned (.tuple #[.pointer none, .int .i64 (chk t)]) ∧ Ext w w'
def CompYes (t : Tr) (w : World) (e : Ending) (w' : World) : Prop := ∃ p, e = .returned (.tuple #[.pointer (some ⟨p, 0, none⟩), .int .i64 0]) ∧ MachT w w' p t ∧ Ext w w'
theorem compile_no (t : Tr) (v : Value) (w : World) (hN : sizeT t ≤ 100000) (hv : PV w t v) (hc : chk t ≠ 0) : Calls Try.prog 22 #[v] w (CompNo t w) := by
  have HV := Lib.hid hv
  have HN := Lib.hid hN
  obtain ⟨c, hcc⟩ : ∃ c, c = chk t := ⟨_, rfl⟩
  have hne : (c != 0) = true := by rw [hcc]; simpa using hc
  have hne2 : (c == 0) = false := by rw [hcc]; simpa using hc
  have c0 := Lib.hid (fun w1 (hE : Ext w w1) => check_any t v w1 hN (PV_ext hv hE))
  rw [← hcc] at c0
  have HCC := Lib.hid hcc
  clear hcc hc hN
  cases t with
  | node k n ps =>
    obtain ⟨s, rfl, hs⟩ := hv
    obtain ⟨A, cp, rfl⟩ := PS_form hs
    clear hs
    obtain ⟨t, ht⟩ : ∃ t, t = Tr.node k n ps := ⟨_, rfl⟩
    rw [← ht] at HCC ⊢
    clear ht
    go_enter Try.func22, Try.ntmps22
    go_wp2_with (go_at_call 23; refine (c0.out _ (ext_alloc (ext_refl _) _)).mono ?_; rintro e w1 ⟨rfl, hE1⟩; have HE1 := Lib.hid (ext_trans (ext_alloc (ext_refl _) _) hE1); clear hE1)
    refine bodyPost_ret (results_tmp2 rfl _ _ _) rfl ?_
    exact ⟨by rw [← HCC.out]; rfl, HE1.out⟩
theorem compile_yes (t : Tr) (v : Value) (w : World) (hv : PV w t v) (hc : chk t = 0) : Calls Try.prog 22 #[v] w (CompYes t w) := by
  have HV := Lib.hid hv
  have HT := Lib.hid (chk_ok hc)
  have c0 := Lib.hid (fun w1 (hE : Ext w w1) => check_any t v w1 (Nat.le_trans HT.out.2 (by decide)) (PV_ext hv hE))
  rw [hc] at c0
  have HF := Lib.hid (chk_ok hc).1
  have hsz := (chk_ok hc).2
  clear hc
  cases t with
  | node k n ps =>
    obtain ⟨s, rfl, hs⟩ := hv
    obtain ⟨A, cp, rfl⟩ := PS_form hs
    clear hs
    obtain ⟨t, ht⟩ : ∃ t, t = Tr.node k n ps := ⟨_, rfl⟩
    rw [← ht] at hsz HT HF HV ⊢
    clear ht
    go_enter Try.func22, Try.ntmps22
    go_wp2_with fail
    have hE0 : Ext w (w.alloc (.cells #[.int .i64 k, .int .i64 n, .slice A ps.length cp] 30)) := ext_alloc (ext_refl _) _
    have hB0 := heap_alloc_new w (.cells #[.int .i64 k, .int .i64 n, .slice A ps.length cp] 30)
    refine (c0.out _ hE0).mono ?_
    rintro e w1 ⟨rfl, hE1⟩
    have HE1 := Lib.hid (ext_trans hE0 hE1)
    have HB1 := Lib.hid ((ext_block hE1 (block_lt hB0)).trans hB0)
    clear hE1 hE0 hB0
    go_wp2_with fail
    have hE2 : Ext w1 (w1.alloc (.cells #[.slice none 0 0, .int .i64 0, .int .i64 0] 106)) := ext_alloc (ext_refl _) _
    refine (state_cur w _ w1.heap.size 0 0 0 [] (cur_new w w1 HE1.out) (by omega)).mono ?_
    rintro e w2 ⟨rfl, hc2, hu2⟩
    have HB2 := Lib.hid (mt_block hu2 ((ext_block hE2 (block_lt HB1.out)).trans HB1.out) (by decide))
    obtain ⟨k1, k2, ⟨A3, c3, n3, k3⟩, k4⟩ := cur_set1 hc2 0
    have HC2 := Lib.hid k1
    have hq1 := block_cell k3 1
    have hqf := block_frozen k3 1
    have lp := k2
    have hpB : w1.heap.size ≠ w.heap.size := by have := block_lt HB1.out; omega
    have HB3 := Lib.hid (show (w2.setCell ⟨w1.heap.size, 1, none⟩ (.int .i64 0)).heap[w.heap.size]? = some (.cells #[.int .i64 k, .int .i64 n, .slice A ps.length cp] 30 (0, 0)) by rw [Below.heap_setCell _ _ _ _ (by exact fun e => hpB e.symm)]; exact HB2.out)
    simp at hq1
    clear hc2 hu2 k1 k2 k3 k4 hE2
    have HU2 := Lib.hid (show True from trivial)
    go_wp2
    refine wp_gen (fun W0 hW0 => ?_)
    rw [← hW0] at HC2 HB3
    clear hW0 hq1 hqf HB2 HU2 HB1
    obtain ⟨k1, k2, ⟨A4, c4, n4, k3⟩, k4⟩ := cur_set1 HC2.out 0
    have HK3 := Lib.hid k3
    have hnb : ¬ (MT W0 w.heap.size ∨ W0.heap.size ≤ w.heap.size) := fun h => by
      rcases h with ⟨cs, tt, fr, h1, h2⟩ | h
      · rw [HB3.out] at h1
        simp only [Option.some.injEq, Obj.cells.injEq] at h1
        obtain ⟨-, rfl, -⟩ := h1
        simp at h2
      · have := block_lt HB3.out; omega
    have b0 : ∀ pw : UW (fun b => MT W0 b ∨ W0.heap.size ≤ b) W0, pw.val.cell? ⟨w.heap.size, 0, none⟩ = some (.int .i64 k) := uw_cell (block_cell HB3.out 0) hnb
    have b1 : ∀ pw : UW (fun b => MT W0 b ∨ W0.heap.size ≤ b) W0, pw.val.cell? ⟨w.heap.size, 1, none⟩ = some (.int .i64 n) := uw_cell (block_cell HB3.out 1) hnb
    have b2 : ∀ pw : UW (fun b => MT W0 b ∨ W0.heap.size ≤ b) W0, pw.val.cell? ⟨w.heap.size, 2, none⟩ = some (.slice A ps.length cp) := uw_cell (block_cell HB3.out 2) hnb
    have lp0 := k2
    clear k1 k2 k3 k4 hnb lp
    refine wp_region_upd (fp := fun b => MT W0 b ∨ W0.heap.size ≤ b) [] [0, 1, 2, 3, 4, 5] [(6, fun v _ => v = .int .i64 0)] 7 (fun v w' => v = .int .i64 ((gen t 1 0).last : Int) ∧ Cur w w1.heap.size 0 0 (gen t 1 0).moves (gen t 1 0).many w') [8, 9, 10] [6, 7] rfl (by kernel_rfl) (by kernel_rfl) (by kernel_rfl) (fun _ _ d _ _ h => by cases d <;> exact h) ?_
    refine wpPre_nil ?_
    repeat (refine wpU_step rfl (fun K hK => ?_); (try simp only [Oper.quietAt, Oper.quietUpon]); go_simp; (refine hK _ ?_; clear hK K))
    refine wpU_nil ?_
    refine wpGen_step rfl rfl (fun _ _ _ _ h => h) (fun w6 hE6 hS6 => ?_) (fun v0 => ?_)
    · have q1 : w6.cell? ⟨w1.heap.size, 1, none⟩ = some (.int .i64 0) := block_cell ((ext_block hE6 lp0).trans HK3.out) 1
      have l6 := ext_lt hE6 lp0
      simp only [runsAt]
      go_simp
      exact ext_refl _
    refine wpGen_nil ?_
    refine ⟨⟨_, rfl, rfl, fun v a b hE hR => ⟨hR.1, cur_ext hR.2 hE⟩⟩, fun w6 hE6 hS6 o ho => ?_, fun o ho v w6 hU6 hR6 => ?_⟩
    · cases ho
      have hv0 : v0 = .int .i64 0 := hS6 _ (List.mem_cons_self ..)
      subst hv0
      simp only [runsAt]
      go_simp
      have hl := lay_all 200 t _ w w6 w1.heap.size 1 0 0 0 [] HT.out.2 HF.out HV.out (cur_ext HC2.out hE6) (by omega) (by omega) (by simp; omega)
      refine hl.mono ?_
      rintro e w7 ⟨rfl, hc7, hu7⟩
      refine ⟨_, rfl, upd_mono hu7 (fun b hb hm => ?_), rfl, hc7⟩
      rcases Nat.lt_or_ge b W0.heap.size with h | h
      · obtain ⟨cs, tt, fr, h1, h2⟩ := hm
        exact .inl ⟨cs, tt, fr, by rw [← ext_block hE6 h]; exact h1, h2⟩
      · exact .inr h
    · cases ho
      obtain ⟨rfl, hc6⟩ := hR6
      obtain ⟨_, k2, ⟨A5, c5, n5, k3⟩, _⟩ := cur_set1 hc6 0
      have HFIN := Lib.hid (cur_set2 hc6 ((gen t 1 0).last : Int))
      have hq2 := block_cell k3 2
      have hqf := block_frozen k3 2
      simp at hq2
      clear hc6 k3 b0 b1 b2 lp0
      obtain ⟨la, hla⟩ : ∃ la, la = (gen t 1 0).last := ⟨_, rfl⟩
      have HLA := Lib.hid hla
      have HFIN2 : Hid (Cur w w1.heap.size 0 (la : Int) (gen t 1 0).moves (gen t 1 0).many (w6.setCell ⟨w1.heap.size, 2, none⟩ (.int .i64 (la : Int)))) := by rw [hla]; exact HFIN
      rw [← hla]
      clear hla HFIN
      refine wpSeq_of_list [8, 9, 10] [_, _, _] _ _ rfl ?_
      go_wp2
      refine bodyPost_ret (results_tmp2 rfl _ _ _) rfl ?_
      exact ⟨_, rfl, ⟨by rw [← HLA.out]; exact HFIN2.out, HF.out, hsz⟩, cur_W HFIN2.out⟩
end Go.Proofs.Ytiabmdboacpmcaa
