/- Texts joined: Qf Qg. -/
import Derived.Deep.QuietTactic
import Derived.BigQuiet
import Derived.Test.YtiabmdboacpmcaaX24
import Derived.Test.YtiabmdboacpmcaaX23
import Derived.ChangeKeysEq
import Derived.Test.YtiabmdboacpmcaaX20
/- Fix: the walk. -/
namespace Go.Proofs.Ytiabmdboacpmcaa
open Go Go.RowKit Go.Sort
set_option maxHeartbeats 2000000

def elU : El Nat := ⟨fun a => [.int .u8 (a : Int)], 1, 5, by decide, fun _ => rfl, fun x u hu => by rw [List.mem_singleton.1 hu]; rfl⟩
noncomputable def tpU : Tp Try.prog 24 elU := ⟨(Try.prog.info? 5).get (by kernel_rfl), .int .u8 0, 1, Try.underlying24, by kernel_rfl, by kernel_rfl, by kernel_rfl, by kernel_rfl, rfl, by decide⟩
def elD : El PaV := ⟨fun x => [.int .i64 x.1, .int .i64 x.2.1, slv x.2.2], 3, 26, by decide, fun _ => rfl, fun x u hu => by
  simp only [List.mem_cons, List.not_mem_nil, or_false] at hu; rcases hu with rfl | rfl | rfl <;> rfl⟩
noncomputable def tpD : Tp Try.prog 22 elD := ⟨(Try.prog.info? 26).get (by kernel_rfl), .agg #[.int .i64 0, .int .i64 0, .slice none 0 0], 40, Try.underlying22, by kernel_rfl, by kernel_rfl, by kernel_rfl, by kernel_rfl, rfl, by decide⟩

theorem rowU_rd {w : World} {v : Value} {L : List Nat} (h : rowE elU w v L) (hb : ∀ d ∈ L, d < 256) : RdB w v L := by
  obtain ⟨A, c, rfl⟩ := rowE_form h
  refine ⟨A, c, rfl, (rowE_cap h).2, hb, fun hne => ?_⟩
  obtain ⟨g, rfl, hg⟩ := rowE_some h hne
  refine ⟨g, 0, rfl, hg, fun i x hx => ?_⟩
  have := rowE_cell h hx (j := 0) (u := .int .u8 (x : Int)) rfl
  simpa [elU] using this
/-- nodes in a row of one's own -/
def DRow (w : World) (H : Nat) (L : List Nd) (v : Value) : Prop := ∃ xv : List PaV, xv.length = L.length ∧ rowF elD H xv v w ∧ ∀ (m : Nat) (x : Nd) (y : PaV), L[m]? = some x → xv[m]? = some y → y.1 = x.1 ∧ y.2.1 = x.2.1 ∧ rowF elU H x.2.2 (slv y.2.2) w
theorem drow_nil (w : World) (H : Nat) : DRow w H [] (.slice none 0 0) := ⟨[], rfl, rowF_nil _ _, fun m x y hx => by simp at hx⟩
theorem drow_ext {w w' : World} {H : Nat} {L : List Nd} {v : Value} (h : DRow w H L v) (hE : Ext w w') : DRow w' H L v := by
  obtain ⟨xv, h1, h2, h3⟩ := h
  refine ⟨xv, h1, rowF_ext _ _ _ hE h2, fun m x y hx hy => ?_⟩
  obtain ⟨k1, k2, k3⟩ := h3 m x y hx hy
  exact ⟨k1, k2, rowF_ext _ _ _ hE k3⟩
theorem drow_add {w : World} {H : Nat} {L : List Nd} {v xs : Value} {x : Nd} {y : PaV} (h : DRow w H L v) (hx : SrcOf elD w xs [y]) (h1 : y.1 = x.1) (h2 : y.2.1 = x.2.1) (h3 : rowF elU H x.2.2 (slv y.2.2) w) (hl : L.length ≤ 1000) (hH : H ≤ w.heap.size) (ty : TypeId) :
    ∃ v' w', (Builtin.append_ #[22, 22] ty #[v, xs]).run Try.prog w = .ok v' w' ∧ (DRow w' H (L ++ [x]) v' ∧ w.grownBy w' v.ownBlock) := by
  obtain ⟨xv, k1, k2, k3⟩ := h
  obtain ⟨v', w', r1, r2, r3⟩ := append_onto tpD ty H v xs xv [y] w k2 hx (by rw [k1]; simp; omega) hH
  refine ⟨v', w', r1, ⟨⟨xv ++ [y], by simp [k1], r2, fun m x' y' hx' hy' => ?_⟩, r3⟩⟩
  have up : ∀ {l : List Nat} {s : SlV}, rowF elU H l (slv s) w → rowF elU H l (slv s) w' := fun hr => rowF_upd hr (upd_grown r3) (fun b hb e => el_apart hr.1 k2.1 (by decide) hb e)
  by_cases hm : m < L.length
  · rw [List.getElem?_append_left hm] at hx'
    rw [List.getElem?_append_left (by omega)] at hy'
    obtain ⟨j1, j2, j3⟩ := k3 m x' y' hx' hy'
    exact ⟨j1, j2, up j3⟩
  · rw [List.getElem?_append_right (by omega)] at hx'
    rw [List.getElem?_append_right (by omega)] at hy'
    have hm0 : m - L.length = 0 := by
      have := (List.getElem?_eq_some_iff.1 hx').1
      simp at this
      omega
    rw [hm0] at hx'
    rw [k1, hm0] at hy'
    simp only [List.getElem?_cons_zero, Option.some.injEq] at hx' hy'
    subst hx' hy'
    exact ⟨h1, h2, up h3⟩
theorem drow_rd {w : World} {H n : Nat} {L : List Nd} {v : Value} (h : DRow w H L v) (hL : ∀ (m : Nat) (x : Nd), L[m]? = some x → FixNd n m x) : RdNd w v L := by
  obtain ⟨xv, h1, h2, h3⟩ := h
  obtain ⟨A, c, rfl⟩ := rowE_form h2.1
  rw [h1]
  refine ⟨A, c, rfl, by have := (rowE_cap h2.1).2; omega, fun x hx => ?_, fun hne => ?_⟩
  · obtain ⟨m, hm⟩ := List.mem_iff_getElem?.1 hx
    obtain ⟨q1, q2, q3, q4, q5, q6, q7, q8, q9⟩ := hL m x hm
    exact ⟨⟨by omega, by omega⟩, ⟨by omega, by omega⟩, by unfold maxLen; omega⟩
  · obtain ⟨g, rfl, hg⟩ := rowE_some h2.1 (fun e => by rw [e] at h1; simp at h1; exact hne (List.length_eq_zero_iff.1 h1.symm))
    refine ⟨g, 0, rfl, hg, fun i x hx => ?_⟩
    have hi := (List.getElem?_eq_some_iff.1 hx).1
    obtain ⟨y, hy⟩ : ∃ y, xv[i]? = some y := ⟨_, List.getElem?_eq_getElem (by omega)⟩
    obtain ⟨j1, j2, j3⟩ := h3 i x y hx hy
    obtain ⟨q1, q2, q3, q4, q5, q6, q7, q8, q9⟩ := hL i x hx
    have c0 := rowE_cell h2.1 hy (j := 0) (u := .int .i64 y.1) rfl
    have c1 := rowE_cell h2.1 hy (j := 1) (u := .int .i64 y.2.1) rfl
    have c2 := rowE_cell h2.1 hy (j := 2) (u := slv y.2.2) rfl
    rw [j1] at c0
    rw [j2] at c1
    rw [Nat.zero_add]
    exact ⟨c0, c1, _, c2, rowU_rd j3.1 (fun d hd => by have := q9 d hd; omega)⟩

theorem drow_form {w : World} {H : Nat} {L : List Nd} {v : Value} (h : DRow w H L v) : ∃ A c, v = .slice A L.length c := by
  obtain ⟨xv, h1, h2, -⟩ := h
  obtain ⟨A, c, rfl⟩ := rowE_form h2.1
  exact ⟨A, c, by rw [h1]⟩
theorem drow_own {w : World} {H : Nat} {L : List Nd} {v : Value} (h : DRow w H L v) : ∀ b, v.ownBlock = some b → H ≤ b := by
  obtain ⟨xv, h1, h2, -⟩ := h
  exact h2.2
theorem umod (a m : Int) (hm : 0 < m) (hm8 : m ≤ 8) : 0 ≤ wrap64 ((IntKind.u64.wrap a).tmod m) ∧ wrap64 ((IntKind.u64.wrap a).tmod m) < m := by
  have h0 : 0 ≤ IntKind.u64.wrap a := by unfold IntKind.wrap; simp [IntKind.bits, IntKind.signed]; omega
  rw [Int.tmod_eq_emod_of_nonneg h0]
  have h1 := Int.emod_nonneg (IntKind.u64.wrap a) (show m ≠ 0 by omega)
  have h2 := Int.emod_lt_of_pos (IntKind.u64.wrap a) hm
  unfold wrap64
  omega
theorem fixNd_make {n i : Nat} {k m : Int} {es : List Nat} (hk : 0 ≤ k ∧ k < 7) (hm : 0 ≤ m ∧ m < 4) (h2 : k < 2 → es.length = 0) (h3 : 3 < k → es.length ≤ 1) (hl : es.length ≤ 2) (he : es = [] → k < 2) (hd : ∀ d ∈ es, d < 8 ∧ i + 1 + d < n) : FixNd n i (k, m, es) :=
  ⟨hk.1, by simp only; omega, hm.1, by simp only; omega, fun h => List.length_eq_zero_iff.1 (h2 h), fun h => fun e => by have := he e; simp only at h; omega, fun h => by
    have h4 := h3 h
    have h5 : es.length ≠ 0 := fun e => by have := he (List.length_eq_zero_iff.1 e); simp only at h; omega
    simp only
    omega, hl, hd⟩
theorem u8mod {y l : Nat} (hy : y < 256) (_hl : 0 < l) : IntKind.u8.wrap ((y : Int).tmod (l : Int)) = ((y % l : Nat) : Int) := by
  rw [Int.tmod_eq_emod_of_nonneg (by omega)]
  have h1 : (y : Int) % (l : Int) = ((y % l : Nat) : Int) := by omega
  have h2 : y % l ≤ y := Nat.mod_le _ _
  rw [h1]
  unfold IntKind.wrap
  simp [IntKind.bits, IntKind.signed]
  omega

theorem ext_updL {fp : Nat → Prop} {W w w' : World} (h : Ext W w) (hu : Upd fp w w') (hf : ∀ b, fp b → W.heap.size ≤ b) : Ext W w' :=
  ext_of_upd ⟨hu.os.trans (Below.os h), hu.tape.trans (Below.tape h), hu.output.trans (Below.output h), Nat.le_trans (ext_size h) hu.size, fun k hk _ => (hu.block k (Nat.lt_of_lt_of_le hk (ext_size h)) (fun hfk => absurd (hf k hfk) (by omega))).trans (ext_block h hk)⟩
theorem fix_out {w W1 wb : World} {py i cO j c : Nat} {L' : List Nd} {O P : Option Addr} {kf m : Int} {es : List Nat} (hD : DRow W1 w.heap.size L' (.slice O i cO)) (hE : Ext w W1) (hEb : Ext W1 wb) (hz : W1.heap.size = py) (hr : rowF elU (py + 1) es (.slice P j c) wb) (hi : L'.length = i) (hl : i ≤ 1000) (ty : TypeId) {q : Nat} (hq : wb.heap.size = q) :
    ∃ v' w', (Builtin.append_ #[22, 22] ty #[.slice O i cO, .slice (some ⟨q, 0, none⟩) 1 1]).run Try.prog (wb.alloc (.cells #[.int .i64 kf, .int .i64 m, .slice P j c] 26)) = .ok v' w' ∧ (∃ O' c', v' = .slice O' (i + 1) c' ∧ DRow w' w.heap.size (L' ++ [(kf, m, es)]) (.slice O' (i + 1) c') ∧ Ext w w') := by
  subst hq
  have hsz := ext_size hE
  have hsb := ext_size hEb
  have hEa := ext_alloc hEb (.cells #[.int .i64 kf, .int .i64 m, .slice P j c] 26)
  have h3 := rowF_ext _ _ _ (ext_alloc (ext_refl wb) (.cells #[.int .i64 kf, .int .i64 m, .slice P j c] 26)) hr
  obtain ⟨v', w', h4, h5, h6⟩ := drow_add (x := (kf, m, es)) (y := (kf, m, (P, j, c))) (drow_ext hD hEa) (srcOf_one (H := 0) ⟨wb.heap.size, rfl, Nat.zero_le _, heap_alloc_new _ _⟩) rfl rfl (rowF_low h3 (by omega)) (by omega) (by rw [World.size_alloc]; omega) ty
  obtain ⟨O', c', rfl⟩ := drow_form h5
  have hl' : (L' ++ [((kf, m, es) : Nd)]).length = i + 1 := by rw [List.length_append, hi]; rfl
  rw [hl'] at h4 h5
  exact ⟨_, w', h4, O', c', rfl, h5, ext_grown (ext_trans hE hEa) h6 (fun b hb => drow_own hD b hb) (Nat.le_refl _)⟩

def FixPost (w : World) (e : Ending) (w' : World) : Prop := ∃ (L' : List Nd) (v : Value), e = .returned v ∧ RdNd w' v L' ∧ Fixed L' ∧ L'.length ≤ 8 ∧ Ext w w'
set_option maxRecDepth 100000 in
theorem fix_any (v : Value) (L : List Nd) (w : World) (hv : RdNd w v L) : Calls Try.prog 25 #[v] w fun e w' => ∃ (L' : List Nd) (v : Value), e = .returned v ∧ RdNd w' v L' ∧ Fixed L' ∧ L'.length = min L.length 8 ∧ Ext w w' := by
  obtain ⟨A0, c0, rfl, hc0, hb0, hA⟩ := hv
  have HA := Lib.hid hA
  have HB0 := Lib.hid hb0
  clear hA hb0
  obtain ⟨n, hn⟩ : ∃ n, n = min L.length 8 := ⟨_, rfl⟩
  have HN := Lib.hid hn
  have hn0 : min (L.length : Int) 8 = (n : Int) := by omega
  have hn1 : n ≤ L.length := by omega
  have hn8 : n ≤ 8 := by omega
  have HN0 := Lib.hid hn0
  clear hn hn0
  go_enter Try.func25, Try.ntmps25
  go_wp2
  go_loopw [12, 3] (fun x y wr => ∃ (i : Nat) (L' : List Nd) (O : Option Addr) (cO : Nat), i ≤ L.length ∧ i ≤ 8 ∧ L'.length = i ∧ x = .int .i64 (i : Int) ∧ y = .slice O i cO ∧ DRow wr w.heap.size L' (.slice O i cO) ∧ (∀ (m : Nat) (x : Nd), L'[m]? = some x → FixNd n m x) ∧ Ext w wr) (fun x _ _ => L.length - (intOf x).toNat)
  case atStart => exact ⟨0, [], none, 0, Nat.zero_le _, by omega, rfl, rfl, rfl, drow_nil _ _, fun m x hx => by simp at hx, ext_refl _⟩
  case round =>
    rename World => wo
    obtain ⟨i, L', O, cO, hi, hi8, hl', rfl, rfl, hr, hx, hE⟩ := hrel
    have HL := Lib.hid hl'
    have HR := Lib.hid hr
    have HX := Lib.hid hx
    have HE := Lib.hid hE
    clear hl' hr hx hE
    by_cases hlt : i < L.length
    · obtain ⟨x0, hx0⟩ : ∃ x, L[i]? = some x := ⟨_, List.getElem?_eq_getElem hlt⟩
      obtain ⟨b9, off9, hA9, hb9, hc9⟩ := HA.out (fun e => by rw [e] at hx0; simp at hx0)
      subst hA9
      obtain ⟨z0, z1, s0, z2, z3⟩ := hc9 i x0 hx0
      obtain ⟨A1, c1, rfl, hcc1, hb1, hA1⟩ := z3
      obtain ⟨ok0, ok1, ok2⟩ := HB0.out x0 (List.mem_of_getElem? hx0)
      obtain ⟨a, b, ds⟩ := x0
      simp only at z0 z1 hcc1 hb1 hA1 ok0 ok1 ok2
      have q0 := (ext_cell HE.out _ _ hb9).trans z0
      have q1 := (ext_cell HE.out _ _ hb9).trans z1
      have q2 := (ext_cell HE.out _ _ hb9).trans z2
      have l9 := ext_lt HE.out hb9
      have HA1 := Lib.hid hA1
      have HB1 := Lib.hid hb1
      have HOK := Lib.hid ok0
      have HOK1 := Lib.hid ok1
      have hji : (i : Int) < (L.length : Int) := by omega
      have hj0 : (0 : Int) ≤ (i : Int) := by omega
      clear hc9 hx0 z0 z1 z2 hA1 hb1 ok0 ok1
      by_cases h8 : i = 8
      · subst h8
        go_wp2
        refine bodyPost_ret (results_tmp rfl _ _ _) rfl ?_
        exact ⟨L', _, rfl, drow_rd (drow_ext HR.out (ext_alloc (ext_refl _) _)) HX.out, by
          have : L'.length = n := by rw [HL.out, HN.out]; omega
          intro m x hm
          rw [this]
          exact HX.out m x hm, HL.out.trans (by omega), ext_alloc HE.out _⟩
      · have h8' : ((i : Int) == 8) = false := by rw [beq_eq_false_iff_ne]; omega
        go_wp2_with fail
        obtain ⟨lf, hlf⟩ : ∃ lf : Nat, lf = n - 1 - i := ⟨_, rfl⟩
        have hin : i < n := by have := HN.out; omega
        have hlf1 : min (L.length : Int) 8 - (i : Int) - 1 = (lf : Int) := by rw [HN0.out]; omega
        obtain ⟨k, hk⟩ : ∃ k, k = wrap64 ((IntKind.u64.wrap a).tmod 7) := ⟨_, rfl⟩
        obtain ⟨m, hm⟩ : ∃ m, m = wrap64 ((IntKind.u64.wrap b).tmod 4) := ⟨_, rfl⟩
        have hkr := umod a 7 (by decide) (by decide)
        have hmr := umod b 4 (by decide) (by decide)
        rw [← hk] at hkr ⊢
        rw [← hm] at hmr ⊢
        rw [hlf1]
        clear hk hm hlf1
        obtain ⟨W1, hW1⟩ : ∃ W1, W1 = wo.alloc (.cells #[.int .i64 a, .int .i64 b, .slice A1 ds.length c1] 26) := ⟨_, rfl⟩
        have hz1 : W1.heap.size = wo.heap.size + 1 := by rw [hW1]; simp
        have hx1 : W1.heap[wo.heap.size]? = some (.cells #[.int .i64 a, .int .i64 b, .slice A1 ds.length c1] 26 (0, 0)) := by rw [hW1]; exact heap_alloc_new _ _
        have hE1 : Ext wo W1 := by rw [hW1]; exact ext_alloc (ext_refl _) _
        rw [← hW1]
        obtain ⟨py, hpy⟩ : ∃ py, py = wo.heap.size + 1 := ⟨_, rfl⟩
        rw [← hpy] at hz1 ⊢
        have hy1 : (W1.alloc (.cells #[.int .i64 k, .int .i64 m, .slice none 0 0] 26)).heap[py]? = some (.cells #[.int .i64 k, .int .i64 m, .slice none 0 0] 26 (0, 0)) := by
          have := heap_alloc_new W1 (.cells #[.int .i64 k, .int .i64 m, .slice none 0 0] 26)
          rwa [hz1] at this
        have HE1 := Lib.hid hE1
        have HY1 := Lib.hid hy1
        have HZ1 := Lib.hid hz1
        have HR1 := Lib.hid (drow_ext HR.out hE1)
        have HO := Lib.hid (drow_own HR.out)
        have HPY := Lib.hid hpy
        have HLF := Lib.hid hlf
        have hpl : wo.heap.size < py := by omega
        clear hW1 hx1 hE1 hy1 q0 q1 q2 hz1 hpy hlf
        go_loopw [39] (fun x wr => ∃ (j : Nat) (es : List Nat) (P : Option Addr) (c : Nat), j ≤ ds.length ∧ j ≤ 2 ∧ es.length = j ∧ x = .int .i64 (j : Int) ∧ wr.heap[py]? = some (.cells #[.int .i64 k, .int .i64 m, .slice P j c] 26 (0, 0)) ∧ rowF elU (py + 1) es (.slice P j c) wr ∧ (∀ d ∈ es, d < 8 ∧ i + 1 + d < n) ∧ (k < 2 → j = 0) ∧ (3 < k → j ≤ 1) ∧ Ext W1 wr) (fun x _ => ds.length - (intOf x).toNat)
        case atStart => exact ⟨0, [], none, 0, Nat.zero_le _, by omega, rfl, rfl, HY1.out, rowF_nil _ _, by simp, fun _ => rfl, fun _ => by omega, ext_alloc (ext_refl _) _⟩
        case round =>
          rename World => wr
          obtain ⟨j, es, P, c, hjd, hj2, hel, rfl, hpc, hrp, hes, hk2, hk3, hEr⟩ := hrel
          have HPC := Lib.hid hpc
          have HRP := Lib.hid hrp
          have HES := Lib.hid hes
          have HEL := Lib.hid hel
          have HER := Lib.hid hEr
          have p0 : wr.cell? ⟨py, 0, none⟩ = some (.int .i64 k) := block_cell hpc 0
          have p1 : wr.cell? ⟨py, 1, none⟩ = some (.int .i64 m) := block_cell hpc 1
          have p2 : wr.cell? ⟨py, 2, none⟩ = some (.slice P j c) := block_cell hpc 2
          have fp0 := block_frozen hpc 0
          have fp2 := block_frozen hpc 2
          have lp := block_lt hpc
          clear hpc hrp hes hEr hel
          by_cases hjl : j < ds.length
          · have hjj : (j : Int) < (ds.length : Int) := by omega
            have hjj0 : (0 : Int) ≤ (j : Int) := by omega
            obtain ⟨y, hy⟩ : ∃ y, ds[j]? = some y := ⟨_, List.getElem?_eq_getElem hjl⟩
            obtain ⟨b8, off8, hA8, hb8, hc8⟩ := HA1.out (fun e => by rw [e] at hy; simp at hy)
            subst hA8
            have hy8 := HB1.out y (List.mem_of_getElem? hy)
            have z9 := (ext_cell (ext_trans HE.out (ext_trans HE1.out HER.out)) _ _ hb8).trans (hc8 j y hy)
            have l8 := ext_lt (ext_trans HE.out (ext_trans HE1.out HER.out)) hb8
            clear hc8 hy
            by_cases hlf0 : lf = 0
            · have d0 : ((lf : Int) == 0) = true := by rw [beq_iff_eq]; omega
              have HLF0 := Lib.hid hlf0
              clear hlf0
              by_cases he : j = 0
              · have e0 : es = [] := List.length_eq_zero_iff.1 (by rw [HEL.out]; exact he)
                have E0 := Lib.hid e0
                have dl : ((j : Int) == 0) = true := by rw [beq_iff_eq]; omega
                by_cases hk1 : 1 < k
                · have dg : decide (1 < k) = true := decide_eq_true hk1
                  have hes2 : Ext W1 (wr.setCell ⟨py, 0, none⟩ (.int .i64 (k % 2))) := ext_set HER.out (Nat.le_of_eq HZ1.out) _
                  have hrp2 : rowF elU (py + 1) es (.slice P j c) (wr.setCell ⟨py, 0, none⟩ (.int .i64 (k % 2))) := rowF_upd HRP.out (upd_setCell _) (fun b hb e => by have h8 := HRP.out.2 b hb; have h9 : b = py := e; omega)
                  have hq2 : (wr.setCell ⟨py, 0, none⟩ (.int .i64 (k % 2))).heap.size = wr.heap.size := by simp [World.setCell]
                  have HES2 := Lib.hid hes2
                  have HRP2 := Lib.hid hrp2
                  have HQ2 := Lib.hid hq2
                  have hkm : 0 ≤ k % 2 ∧ k % 2 < 2 := by omega
                  clear e0 he hes2 hrp2 hq2
                  go_wp2_with (at_builtin; refine halt_here ?_)
                  refine go_on ?_
                  refine wpList_append rfl (.tmp 89) (.tmp 91) rfl _ _ rfl rfl (fun v' w' => ∃ O' c', v' = .slice O' (i + 1) c' ∧ DRow w' w.heap.size (L' ++ [(k % 2, m, es)]) (.slice O' (i + 1) c') ∧ Ext w w') (fix_out (w := w) (W1 := W1) (py := py) HR1.out (ext_trans HE.out HE1.out) HES2.out HZ1.out HRP2.out HL.out (by omega) _ (q := wr.heap.size) HQ2.out) ?_
                  rintro v2 w2 ⟨O2, c2, rfl, hd2, hE2⟩
                  have HD2 := Lib.hid hd2
                  have HE2 := Lib.hid hE2
                  clear hd2 hE2
                  go_wp2
                  go_roundw
                  case rel => exact ⟨i + 1, L' ++ [(k % 2, m, es)], O2, c2, by omega, by omega, by rw [List.length_append, HL.out]; rfl, by go_num, rfl, HD2.out, fun m' x' hx' => by
                    by_cases hm' : m' < L'.length
                    · rw [List.getElem?_append_left hm'] at hx'
                      exact HX.out m' x' hx'
                    · rw [List.getElem?_append_right (by omega)] at hx'
                      have hm0 : m' - L'.length = 0 := by
                        have := (List.getElem?_eq_some_iff.1 hx').1
                        simp at this
                        omega
                      rw [hm0] at hx'
                      simp only [List.getElem?_cons_zero, Option.some.injEq] at hx'
                      subst hx'
                      obtain rfl : m' = i := by have := HL.out; omega
                      exact fixNd_make (by omega) hmr (fun _ => by rw [E0.out]; rfl) (fun h => by omega) (by rw [HEL.out]; exact hj2) (fun _ => by omega) HES.out, HE2.out⟩
                  case measure => simp [intOf]; omega
                · have dg : decide (1 < k) = false := decide_eq_false hk1
                  clear e0 he
                  go_wp2_with (at_builtin; refine halt_here ?_)
                  refine go_on ?_
                  refine wpList_append rfl (.tmp 89) (.tmp 91) rfl _ _ rfl rfl (fun v' w' => ∃ O' c', v' = .slice O' (i + 1) c' ∧ DRow w' w.heap.size (L' ++ [(k, m, es)]) (.slice O' (i + 1) c') ∧ Ext w w') (fix_out (w := w) (W1 := W1) (py := py) HR1.out (ext_trans HE.out HE1.out) HER.out HZ1.out HRP.out HL.out (by omega) _ (q := wr.heap.size) rfl) ?_
                  rintro v2 w2 ⟨O2, c2, rfl, hd2, hE2⟩
                  have HD2 := Lib.hid hd2
                  have HE2 := Lib.hid hE2
                  clear hd2 hE2
                  go_wp2
                  go_roundw
                  case rel => exact ⟨i + 1, L' ++ [(k, m, es)], O2, c2, by omega, by omega, by rw [List.length_append, HL.out]; rfl, by go_num, rfl, HD2.out, fun m' x' hx' => by
                    by_cases hm' : m' < L'.length
                    · rw [List.getElem?_append_left hm'] at hx'
                      exact HX.out m' x' hx'
                    · rw [List.getElem?_append_right (by omega)] at hx'
                      have hm0 : m' - L'.length = 0 := by
                        have := (List.getElem?_eq_some_iff.1 hx').1
                        simp at this
                        omega
                      rw [hm0] at hx'
                      simp only [List.getElem?_cons_zero, Option.some.injEq] at hx'
                      subst hx'
                      obtain rfl : m' = i := by have := HL.out; omega
                      exact fixNd_make hkr hmr (fun _ => by rw [E0.out]; rfl) (fun h => by omega) (by rw [HEL.out]; exact hj2) (fun _ => by omega) HES.out, HE2.out⟩
                  case measure => simp [intOf]; omega
              · have dl : ((j : Int) == 0) = false := by rw [beq_eq_false_iff_ne]; omega
                go_wp2_with (at_builtin; refine halt_here ?_)
                refine go_on ?_
                refine wpList_append rfl (.tmp 89) (.tmp 91) rfl _ _ rfl rfl (fun v' w' => ∃ O' c', v' = .slice O' (i + 1) c' ∧ DRow w' w.heap.size (L' ++ [(k, m, es)]) (.slice O' (i + 1) c') ∧ Ext w w') (fix_out (w := w) (W1 := W1) (py := py) HR1.out (ext_trans HE.out HE1.out) HER.out HZ1.out HRP.out HL.out (by omega) _ (q := wr.heap.size) rfl) ?_
                rintro v2 w2 ⟨O2, c2, rfl, hd2, hE2⟩
                have HD2 := Lib.hid hd2
                have HE2 := Lib.hid hE2
                clear hd2 hE2
                go_wp2
                go_roundw
                case rel => exact ⟨i + 1, L' ++ [(k, m, es)], O2, c2, by omega, by omega, by rw [List.length_append, HL.out]; rfl, by go_num, rfl, HD2.out, fun m' x' hx' => by
                  by_cases hm' : m' < L'.length
                  · rw [List.getElem?_append_left hm'] at hx'
                    exact HX.out m' x' hx'
                  · rw [List.getElem?_append_right (by omega)] at hx'
                    have hm0 : m' - L'.length = 0 := by
                      have := (List.getElem?_eq_some_iff.1 hx').1
                      simp at this
                      omega
                    rw [hm0] at hx'
                    simp only [List.getElem?_cons_zero, Option.some.injEq] at hx'
                    subst hx'
                    obtain rfl : m' = i := by have := HL.out; omega
                    exact fixNd_make hkr hmr (fun h => by rw [HEL.out]; exact hk2 h) (fun h => by rw [HEL.out]; exact hk3 h) (by rw [HEL.out]; exact hj2) (fun h => absurd (HEL.out.symm.trans (by rw [h]; rfl)) he) HES.out, HE2.out⟩
                case measure => simp [intOf]; omega
            · have d0 : ((lf : Int) == 0) = false := by rw [beq_eq_false_iff_ne]; omega
              by_cases hj22 : j = 2
              · have d2 : ((j : Int) == 2) = true := by rw [beq_iff_eq]; omega
                have HJ22 := Lib.hid hj22
                have hj0x : ¬ j = 0 := by omega
                clear hj22
                have he : ¬ j = 0 := by omega
                have dl : ((j : Int) == 0) = false := by rw [beq_eq_false_iff_ne]; omega
                go_wp2_with (at_builtin; refine halt_here ?_)
                refine go_on ?_
                refine wpList_append rfl (.tmp 89) (.tmp 91) rfl _ _ rfl rfl (fun v' w' => ∃ O' c', v' = .slice O' (i + 1) c' ∧ DRow w' w.heap.size (L' ++ [(k, m, es)]) (.slice O' (i + 1) c') ∧ Ext w w') (fix_out (w := w) (W1 := W1) (py := py) HR1.out (ext_trans HE.out HE1.out) HER.out HZ1.out HRP.out HL.out (by omega) _ (q := wr.heap.size) rfl) ?_
                rintro v2 w2 ⟨O2, c2, rfl, hd2, hE2⟩
                have HD2 := Lib.hid hd2
                have HE2 := Lib.hid hE2
                clear hd2 hE2
                go_wp2
                go_roundw
                case rel => exact ⟨i + 1, L' ++ [(k, m, es)], O2, c2, by omega, by omega, by rw [List.length_append, HL.out]; rfl, by go_num, rfl, HD2.out, fun m' x' hx' => by
                  by_cases hm' : m' < L'.length
                  · rw [List.getElem?_append_left hm'] at hx'
                    exact HX.out m' x' hx'
                  · rw [List.getElem?_append_right (by omega)] at hx'
                    have hm0 : m' - L'.length = 0 := by
                      have := (List.getElem?_eq_some_iff.1 hx').1
                      simp at this
                      omega
                    rw [hm0] at hx'
                    simp only [List.getElem?_cons_zero, Option.some.injEq] at hx'
                    subst hx'
                    obtain rfl : m' = i := by have := HL.out; omega
                    exact fixNd_make hkr hmr (fun h => by rw [HEL.out]; exact hk2 h) (fun h => by rw [HEL.out]; exact hk3 h) (by rw [HEL.out]; exact hj2) (fun h => absurd (HEL.out.symm.trans (by rw [h]; rfl)) he) HES.out, HE2.out⟩
                case measure => simp [intOf]; omega
              · have d2 : ((j : Int) == 2) = false := by rw [beq_eq_false_iff_ne]; omega
                by_cases hk : 3 < k
                · have d3 : decide (3 < k) = true := decide_eq_true hk
                  by_cases hj1 : j = 1
                  · have d1 : ((j : Int) == 1) = true := by rw [beq_iff_eq]; omega
                    have HJ1 := Lib.hid hj1
                    have hj0x : ¬ j = 0 := by omega
                    clear hj1
                    have he : ¬ j = 0 := by omega
                    have dl : ((j : Int) == 0) = false := by rw [beq_eq_false_iff_ne]; omega
                    go_wp2_with (at_builtin; refine halt_here ?_)
                    refine go_on ?_
                    refine wpList_append rfl (.tmp 89) (.tmp 91) rfl _ _ rfl rfl (fun v' w' => ∃ O' c', v' = .slice O' (i + 1) c' ∧ DRow w' w.heap.size (L' ++ [(k, m, es)]) (.slice O' (i + 1) c') ∧ Ext w w') (fix_out (w := w) (W1 := W1) (py := py) HR1.out (ext_trans HE.out HE1.out) HER.out HZ1.out HRP.out HL.out (by omega) _ (q := wr.heap.size) rfl) ?_
                    rintro v2 w2 ⟨O2, c2, rfl, hd2, hE2⟩
                    have HD2 := Lib.hid hd2
                    have HE2 := Lib.hid hE2
                    clear hd2 hE2
                    go_wp2
                    go_roundw
                    case rel => exact ⟨i + 1, L' ++ [(k, m, es)], O2, c2, by omega, by omega, by rw [List.length_append, HL.out]; rfl, by go_num, rfl, HD2.out, fun m' x' hx' => by
                      by_cases hm' : m' < L'.length
                      · rw [List.getElem?_append_left hm'] at hx'
                        exact HX.out m' x' hx'
                      · rw [List.getElem?_append_right (by omega)] at hx'
                        have hm0 : m' - L'.length = 0 := by
                          have := (List.getElem?_eq_some_iff.1 hx').1
                          simp at this
                          omega
                        rw [hm0] at hx'
                        simp only [List.getElem?_cons_zero, Option.some.injEq] at hx'
                        subst hx'
                        obtain rfl : m' = i := by have := HL.out; omega
                        exact fixNd_make hkr hmr (fun h => by rw [HEL.out]; exact hk2 h) (fun h => by rw [HEL.out]; exact hk3 h) (by rw [HEL.out]; exact hj2) (fun h => absurd (HEL.out.symm.trans (by rw [h]; rfl)) he) HES.out, HE2.out⟩
                    case measure => simp [intOf]; omega
                  · have d1 : ((j : Int) == 1) = false := by rw [beq_eq_false_iff_ne]; omega
                    have dk : decide (k < 2) = false := decide_eq_false (by omega)
                    have nfp : ¬ (Value.slice P j c).ownBlock = some py := fun e => by have := HRP.out.2 py e; omega
                    have q1 : ∀ pw : UW (fun b => (Value.slice P j c).ownBlock = some b) wr, pw.val.cell? ⟨py, 2, none⟩ = some (.slice P j c) := uw_cell p2 nfp
                    have hlfp : 0 < lf := Nat.pos_of_ne_zero hlf0
                    have hlf8 : min (lf : Int) 8 = (lf : Int) := by have := HLF.out; omega
                    have HRM := Lib.hid (u8mod hy8 hlfp)
                    have hyw : IntKind.i64.wrap (y : Int) = (y : Int) := wrap_small _ (by omega) (by omega)
                    have hml : y % lf < lf := Nat.mod_lt _ hlfp
                    go_wp2_with fail
                    clear p0 p1 p2 fp0 fp2
                    refine wp_region_upd (fp := fun b => (Value.slice P j c).ownBlock = some b) [] [0, 1, 2, 3, 4, 5, 6, 7] [(8, oneF elU wr.heap.size (y % lf))] 9 (fun v w' => rowF elU (py + 1) (es ++ [y % lf]) v w') [10, 11] [8, 9] rfl (by kernel_rfl) (by kernel_rfl) (by kernel_rfl) (fun _ _ d _ _ h => by cases d <;> exact h) ?_
                    refine wpPre_nil ?_
                    repeat (refine wpU_step rfl (fun K hK => ?_); (try simp only [Oper.quietAt, Oper.quietUpon]); go_simp; (refine hK _ ?_; clear hK K))
                    refine wpU_nil ?_
                    refine wpGen_step rfl rfl oneF_ext (fun w6 hE6 hS6 => ?_) (fun v0 => ?_)
                    · simp only [runsAt]
                      go_simp
                      exact ⟨ext_alloc (ext_refl _) _, _, rfl, ext_size hE6, by rw [HRM.out]; exact heap_alloc_new w6 _⟩
                    refine wpGen_nil ?_
                    refine ⟨⟨_, rfl, rfl, fun v a b hE hR => rowF_ext _ _ _ hE hR⟩, fun w6 hE6 hS6 o ho => ?_, fun o ho v w6 hU6 hR6 => ?_⟩
                    · cases ho
                      have hone : oneF elU wr.heap.size (y % lf) v0 w6 := hS6 _ (List.mem_cons_self ..)
                      refine runs_append (sv := .slice P j c) (xv := v0) (.tmp 65) (.tmp 72) rfl rfl rfl ?_
                      obtain ⟨v', w', hrun, hr, hg, hat⟩ := append_at tpU 24 (py + 1) (.slice P j c) v0 es [y % lf] w6 (rowF_ext _ _ _ hE6 HRP.out) (srcOf_one hone) (by rw [HEL.out]; simp; omega) (Nat.le_trans lp (ext_size hE6))
                      exact ⟨v', w', hrun, upd_grown hg, hr⟩
                    · cases ho
                      have hr6 : rowF elU (py + 1) (es ++ [y % lf]) v w6 := hR6
                      obtain ⟨A6, c6, hv6⟩ := rowE_form hr6.1
                      have hl6 : (es ++ [y % lf]).length = j + 1 := by rw [List.length_append, HEL.out]; rfl
                      rw [hl6] at hv6
                      subst hv6
                      have hpb6 := (hU6.block py lp nfp).trans HPC.out
                      have y3 : w6.cell? ⟨py, 2, none⟩ = some (.slice P j c) := q1 ⟨w6, hU6⟩
                      have f3 := block_frozen hpb6 2
                      have lp6 := block_lt hpb6
                      have HPB6 := Lib.hid (show (w6.setCell ⟨py, 2, none⟩ (.slice A6 (j + 1) c6)).heap[py]? = some (.cells #[.int .i64 k, .int .i64 m, .slice A6 (j + 1) c6] 26 (0, 0)) from heap_setCell_at hpb6)
                      have HR6 := Lib.hid (show rowF elU (py + 1) (es ++ [y % lf]) (.slice A6 (j + 1) c6) (w6.setCell ⟨py, 2, none⟩ (.slice A6 (j + 1) c6)) from rowF_upd hr6 (upd_setCell _) (fun b hb e => by have h8 := hr6.2 b hb; have h9 : b = py := e; omega))
                      have HX6 := Lib.hid (show Ext W1 (w6.setCell ⟨py, 2, none⟩ (.slice A6 (j + 1) c6)) from ext_set (ext_updL HER.out hU6 (fun b hb => by have h8 := HRP.out.2 b hb; have h9 := HZ1.out; omega)) (Nat.le_of_eq HZ1.out) _)
                      have HL6 := Lib.hid hl6
                      clear q1 hr6 hU6 hR6 hpb6 hl6
                      refine wpSeq_of_list [10, 11] [_, _] _ _ rfl ?_
                      go_wp2
                      go_roundw
                      case rel => exact ⟨j + 1, es ++ [y % lf], A6, c6, by omega, by omega, HL6.out, by go_num, HPB6.out, HR6.out, fun d hd => by
                        rcases List.mem_append.1 hd with hd | hd
                        · exact HES.out d hd
                        · rw [List.mem_singleton.1 hd]; have := HLF.out; omega, fun h => by omega, fun h => by omega, HX6.out⟩
                      case measure => simp [intOf]; omega
                · have d3 : decide (3 < k) = false := decide_eq_false hk
                  by_cases hkk : k < 2
                  · have dk : decide (k < 2) = true := decide_eq_true hkk
                    have he : j = 0 := hk2 hkk
                    have e0 : es = [] := List.length_eq_zero_iff.1 (by rw [HEL.out]; exact he)
                    have E0 := Lib.hid e0
                    have dl : ((j : Int) == 0) = true := by rw [beq_iff_eq]; omega
                    have hk1 : ¬ 1 < k := by omega
                    clear hk2
                    have dg : decide (1 < k) = false := decide_eq_false hk1
                    clear e0 he
                    go_wp2_with (at_builtin; refine halt_here ?_)
                    refine go_on ?_
                    refine wpList_append rfl (.tmp 89) (.tmp 91) rfl _ _ rfl rfl (fun v' w' => ∃ O' c', v' = .slice O' (i + 1) c' ∧ DRow w' w.heap.size (L' ++ [(k, m, es)]) (.slice O' (i + 1) c') ∧ Ext w w') (fix_out (w := w) (W1 := W1) (py := py) HR1.out (ext_trans HE.out HE1.out) HER.out HZ1.out HRP.out HL.out (by omega) _ (q := wr.heap.size) rfl) ?_
                    rintro v2 w2 ⟨O2, c2, rfl, hd2, hE2⟩
                    have HD2 := Lib.hid hd2
                    have HE2 := Lib.hid hE2
                    clear hd2 hE2
                    go_wp2
                    go_roundw
                    case rel => exact ⟨i + 1, L' ++ [(k, m, es)], O2, c2, by omega, by omega, by rw [List.length_append, HL.out]; rfl, by go_num, rfl, HD2.out, fun m' x' hx' => by
                      by_cases hm' : m' < L'.length
                      · rw [List.getElem?_append_left hm'] at hx'
                        exact HX.out m' x' hx'
                      · rw [List.getElem?_append_right (by omega)] at hx'
                        have hm0 : m' - L'.length = 0 := by
                          have := (List.getElem?_eq_some_iff.1 hx').1
                          simp at this
                          omega
                        rw [hm0] at hx'
                        simp only [List.getElem?_cons_zero, Option.some.injEq] at hx'
                        subst hx'
                        obtain rfl : m' = i := by have := HL.out; omega
                        exact fixNd_make hkr hmr (fun _ => by rw [E0.out]; rfl) (fun h => by omega) (by rw [HEL.out]; exact hj2) (fun _ => by omega) HES.out, HE2.out⟩
                    case measure => simp [intOf]; omega
                  · have dk : decide (k < 2) = false := decide_eq_false hkk
                    have nfp : ¬ (Value.slice P j c).ownBlock = some py := fun e => by have := HRP.out.2 py e; omega
                    have q1 : ∀ pw : UW (fun b => (Value.slice P j c).ownBlock = some b) wr, pw.val.cell? ⟨py, 2, none⟩ = some (.slice P j c) := uw_cell p2 nfp
                    have hlfp : 0 < lf := Nat.pos_of_ne_zero hlf0
                    have hlf8 : min (lf : Int) 8 = (lf : Int) := by have := HLF.out; omega
                    have HRM := Lib.hid (u8mod hy8 hlfp)
                    have hyw : IntKind.i64.wrap (y : Int) = (y : Int) := wrap_small _ (by omega) (by omega)
                    have hml : y % lf < lf := Nat.mod_lt _ hlfp
                    go_wp2_with fail
                    clear p0 p1 p2 fp0 fp2
                    refine wp_region_upd (fp := fun b => (Value.slice P j c).ownBlock = some b) [] [0, 1, 2, 3, 4, 5, 6, 7] [(8, oneF elU wr.heap.size (y % lf))] 9 (fun v w' => rowF elU (py + 1) (es ++ [y % lf]) v w') [10, 11] [8, 9] rfl (by kernel_rfl) (by kernel_rfl) (by kernel_rfl) (fun _ _ d _ _ h => by cases d <;> exact h) ?_
                    refine wpPre_nil ?_
                    repeat (refine wpU_step rfl (fun K hK => ?_); (try simp only [Oper.quietAt, Oper.quietUpon]); go_simp; (refine hK _ ?_; clear hK K))
                    refine wpU_nil ?_
                    refine wpGen_step rfl rfl oneF_ext (fun w6 hE6 hS6 => ?_) (fun v0 => ?_)
                    · simp only [runsAt]
                      go_simp
                      exact ⟨ext_alloc (ext_refl _) _, _, rfl, ext_size hE6, by rw [HRM.out]; exact heap_alloc_new w6 _⟩
                    refine wpGen_nil ?_
                    refine ⟨⟨_, rfl, rfl, fun v a b hE hR => rowF_ext _ _ _ hE hR⟩, fun w6 hE6 hS6 o ho => ?_, fun o ho v w6 hU6 hR6 => ?_⟩
                    · cases ho
                      have hone : oneF elU wr.heap.size (y % lf) v0 w6 := hS6 _ (List.mem_cons_self ..)
                      refine runs_append (sv := .slice P j c) (xv := v0) (.tmp 65) (.tmp 72) rfl rfl rfl ?_
                      obtain ⟨v', w', hrun, hr, hg, hat⟩ := append_at tpU 24 (py + 1) (.slice P j c) v0 es [y % lf] w6 (rowF_ext _ _ _ hE6 HRP.out) (srcOf_one hone) (by rw [HEL.out]; simp; omega) (Nat.le_trans lp (ext_size hE6))
                      exact ⟨v', w', hrun, upd_grown hg, hr⟩
                    · cases ho
                      have hr6 : rowF elU (py + 1) (es ++ [y % lf]) v w6 := hR6
                      obtain ⟨A6, c6, hv6⟩ := rowE_form hr6.1
                      have hl6 : (es ++ [y % lf]).length = j + 1 := by rw [List.length_append, HEL.out]; rfl
                      rw [hl6] at hv6
                      subst hv6
                      have hpb6 := (hU6.block py lp nfp).trans HPC.out
                      have y3 : w6.cell? ⟨py, 2, none⟩ = some (.slice P j c) := q1 ⟨w6, hU6⟩
                      have f3 := block_frozen hpb6 2
                      have lp6 := block_lt hpb6
                      have HPB6 := Lib.hid (show (w6.setCell ⟨py, 2, none⟩ (.slice A6 (j + 1) c6)).heap[py]? = some (.cells #[.int .i64 k, .int .i64 m, .slice A6 (j + 1) c6] 26 (0, 0)) from heap_setCell_at hpb6)
                      have HR6 := Lib.hid (show rowF elU (py + 1) (es ++ [y % lf]) (.slice A6 (j + 1) c6) (w6.setCell ⟨py, 2, none⟩ (.slice A6 (j + 1) c6)) from rowF_upd hr6 (upd_setCell _) (fun b hb e => by have h8 := hr6.2 b hb; have h9 : b = py := e; omega))
                      have HX6 := Lib.hid (show Ext W1 (w6.setCell ⟨py, 2, none⟩ (.slice A6 (j + 1) c6)) from ext_set (ext_updL HER.out hU6 (fun b hb => by have h8 := HRP.out.2 b hb; have h9 := HZ1.out; omega)) (Nat.le_of_eq HZ1.out) _)
                      have HL6 := Lib.hid hl6
                      clear q1 hr6 hU6 hR6 hpb6 hl6
                      refine wpSeq_of_list [10, 11] [_, _] _ _ rfl ?_
                      go_wp2
                      go_roundw
                      case rel => exact ⟨j + 1, es ++ [y % lf], A6, c6, by omega, by omega, HL6.out, by go_num, HPB6.out, HR6.out, fun d hd => by
                        rcases List.mem_append.1 hd with hd | hd
                        · exact HES.out d hd
                        · rw [List.mem_singleton.1 hd]; have := HLF.out; omega, fun h => by omega, fun h => by omega, HX6.out⟩
                      case measure => simp [intOf]; omega
          · have hjj : ¬ (j : Int) < (ds.length : Int) := by omega
            by_cases he : j = 0
            · have e0 : es = [] := List.length_eq_zero_iff.1 (by rw [HEL.out]; exact he)
              have E0 := Lib.hid e0
              have dl : ((j : Int) == 0) = true := by rw [beq_iff_eq]; omega
              by_cases hk1 : 1 < k
              · have dg : decide (1 < k) = true := decide_eq_true hk1
                have hes2 : Ext W1 (wr.setCell ⟨py, 0, none⟩ (.int .i64 (k % 2))) := ext_set HER.out (Nat.le_of_eq HZ1.out) _
                have hrp2 : rowF elU (py + 1) es (.slice P j c) (wr.setCell ⟨py, 0, none⟩ (.int .i64 (k % 2))) := rowF_upd HRP.out (upd_setCell _) (fun b hb e => by have h8 := HRP.out.2 b hb; have h9 : b = py := e; omega)
                have hq2 : (wr.setCell ⟨py, 0, none⟩ (.int .i64 (k % 2))).heap.size = wr.heap.size := by simp [World.setCell]
                have HES2 := Lib.hid hes2
                have HRP2 := Lib.hid hrp2
                have HQ2 := Lib.hid hq2
                have hkm : 0 ≤ k % 2 ∧ k % 2 < 2 := by omega
                clear e0 he hes2 hrp2 hq2
                go_wp2_with (at_builtin; refine halt_here ?_)
                refine go_on ?_
                refine wpList_append rfl (.tmp 89) (.tmp 91) rfl _ _ rfl rfl (fun v' w' => ∃ O' c', v' = .slice O' (i + 1) c' ∧ DRow w' w.heap.size (L' ++ [(k % 2, m, es)]) (.slice O' (i + 1) c') ∧ Ext w w') (fix_out (w := w) (W1 := W1) (py := py) HR1.out (ext_trans HE.out HE1.out) HES2.out HZ1.out HRP2.out HL.out (by omega) _ (q := wr.heap.size) HQ2.out) ?_
                rintro v2 w2 ⟨O2, c2, rfl, hd2, hE2⟩
                have HD2 := Lib.hid hd2
                have HE2 := Lib.hid hE2
                clear hd2 hE2
                go_wp2
                go_roundw
                case rel => exact ⟨i + 1, L' ++ [(k % 2, m, es)], O2, c2, by omega, by omega, by rw [List.length_append, HL.out]; rfl, by go_num, rfl, HD2.out, fun m' x' hx' => by
                  by_cases hm' : m' < L'.length
                  · rw [List.getElem?_append_left hm'] at hx'
                    exact HX.out m' x' hx'
                  · rw [List.getElem?_append_right (by omega)] at hx'
                    have hm0 : m' - L'.length = 0 := by
                      have := (List.getElem?_eq_some_iff.1 hx').1
                      simp at this
                      omega
                    rw [hm0] at hx'
                    simp only [List.getElem?_cons_zero, Option.some.injEq] at hx'
                    subst hx'
                    obtain rfl : m' = i := by have := HL.out; omega
                    exact fixNd_make (by omega) hmr (fun _ => by rw [E0.out]; rfl) (fun h => by omega) (by rw [HEL.out]; exact hj2) (fun _ => by omega) HES.out, HE2.out⟩
                case measure => simp [intOf]; omega
              · have dg : decide (1 < k) = false := decide_eq_false hk1
                clear e0 he
                go_wp2_with (at_builtin; refine halt_here ?_)
                refine go_on ?_
                refine wpList_append rfl (.tmp 89) (.tmp 91) rfl _ _ rfl rfl (fun v' w' => ∃ O' c', v' = .slice O' (i + 1) c' ∧ DRow w' w.heap.size (L' ++ [(k, m, es)]) (.slice O' (i + 1) c') ∧ Ext w w') (fix_out (w := w) (W1 := W1) (py := py) HR1.out (ext_trans HE.out HE1.out) HER.out HZ1.out HRP.out HL.out (by omega) _ (q := wr.heap.size) rfl) ?_
                rintro v2 w2 ⟨O2, c2, rfl, hd2, hE2⟩
                have HD2 := Lib.hid hd2
                have HE2 := Lib.hid hE2
                clear hd2 hE2
                go_wp2
                go_roundw
                case rel => exact ⟨i + 1, L' ++ [(k, m, es)], O2, c2, by omega, by omega, by rw [List.length_append, HL.out]; rfl, by go_num, rfl, HD2.out, fun m' x' hx' => by
                  by_cases hm' : m' < L'.length
                  · rw [List.getElem?_append_left hm'] at hx'
                    exact HX.out m' x' hx'
                  · rw [List.getElem?_append_right (by omega)] at hx'
                    have hm0 : m' - L'.length = 0 := by
                      have := (List.getElem?_eq_some_iff.1 hx').1
                      simp at this
                      omega
                    rw [hm0] at hx'
                    simp only [List.getElem?_cons_zero, Option.some.injEq] at hx'
                    subst hx'
                    obtain rfl : m' = i := by have := HL.out; omega
                    exact fixNd_make hkr hmr (fun _ => by rw [E0.out]; rfl) (fun h => by omega) (by rw [HEL.out]; exact hj2) (fun _ => by omega) HES.out, HE2.out⟩
                case measure => simp [intOf]; omega
            · have dl : ((j : Int) == 0) = false := by rw [beq_eq_false_iff_ne]; omega
              go_wp2_with (at_builtin; refine halt_here ?_)
              refine go_on ?_
              refine wpList_append rfl (.tmp 89) (.tmp 91) rfl _ _ rfl rfl (fun v' w' => ∃ O' c', v' = .slice O' (i + 1) c' ∧ DRow w' w.heap.size (L' ++ [(k, m, es)]) (.slice O' (i + 1) c') ∧ Ext w w') (fix_out (w := w) (W1 := W1) (py := py) HR1.out (ext_trans HE.out HE1.out) HER.out HZ1.out HRP.out HL.out (by omega) _ (q := wr.heap.size) rfl) ?_
              rintro v2 w2 ⟨O2, c2, rfl, hd2, hE2⟩
              have HD2 := Lib.hid hd2
              have HE2 := Lib.hid hE2
              clear hd2 hE2
              go_wp2
              go_roundw
              case rel => exact ⟨i + 1, L' ++ [(k, m, es)], O2, c2, by omega, by omega, by rw [List.length_append, HL.out]; rfl, by go_num, rfl, HD2.out, fun m' x' hx' => by
                by_cases hm' : m' < L'.length
                · rw [List.getElem?_append_left hm'] at hx'
                  exact HX.out m' x' hx'
                · rw [List.getElem?_append_right (by omega)] at hx'
                  have hm0 : m' - L'.length = 0 := by
                    have := (List.getElem?_eq_some_iff.1 hx').1
                    simp at this
                    omega
                  rw [hm0] at hx'
                  simp only [List.getElem?_cons_zero, Option.some.injEq] at hx'
                  subst hx'
                  obtain rfl : m' = i := by have := HL.out; omega
                  exact fixNd_make hkr hmr (fun h => by rw [HEL.out]; exact hk2 h) (fun h => by rw [HEL.out]; exact hk3 h) (by rw [HEL.out]; exact hj2) (fun h => absurd (HEL.out.symm.trans (by rw [h]; rfl)) he) HES.out, HE2.out⟩
              case measure => simp [intOf]; omega
    · obtain rfl : i = L.length := by omega
      go_wp2
      refine bodyPost_ret (results_tmp rfl _ _ _) rfl ?_
      exact ⟨L', _, rfl, drow_rd HR.out HX.out, by
          have : L'.length = n := by rw [HL.out, HN.out]; omega
          intro m x hm
          rw [this]
          exact HX.out m x hm, HL.out.trans (by omega), HE.out⟩
end Go.Proofs.Ytiabmdboacpmcaa
/- The document's Takes. -/
namespace Go.Proofs.Ytiabmdboacpmcaa
open Go Go.RowKit Go.Sort
set_option maxHeartbeats 1000000

/-- does a path take a word? -/
noncomputable def tk (t : Tr) (u : List Sy) : Bool := @decide (Words t u) (Classical.propDecidable _)
noncomputable def tkS (ps : List Tr) (u : List Sy) : Bool := @decide (WordsSeq ps u) (Classical.propDecidable _)
theorem tk_iff (t : Tr) (u : List Sy) : tk t u = true ↔ Words t u := by unfold tk; exact @decide_eq_true_iff _ (Classical.propDecidable _)
theorem tkS_iff (ps : List Tr) (u : List Sy) : tkS ps u = true ↔ WordsSeq ps u := by unfold tkS; exact @decide_eq_true_iff _ (Classical.propDecidable _)
theorem tk_false {t : Tr} {u : List Sy} (h : ¬ Words t u) : tk t u = false := Bool.eq_false_iff.2 (fun e => h ((tk_iff t u).1 e))
theorem tkS_false {ps : List Tr} {u : List Sy} (h : ¬ WordsSeq ps u) : tkS ps u = false := Bool.eq_false_iff.2 (fun e => h ((tkS_iff ps u).1 e))
theorem not_tk {t : Tr} {u : List Sy} (h : tk t u = false) : ¬ Words t u := fun e => by rw [(tk_iff t u).2 e] at h; cases h
theorem not_tkS {ps : List Tr} {u : List Sy} (h : tkS ps u = false) : ¬ WordsSeq ps u := fun e => by rw [(tkS_iff ps u).2 e] at h; cases h

theorem eqS110 (d : Nat) (a1 b1 : Int) (a2 b2 : Bool) (w : World) : (Op.equalIn (d + 2) 110 (.agg #[.int .i64 a1, .bool a2]) (.agg #[.int .i64 b1, .bool b2])).run Try.prog w = .ok (decide ((a1, a2) = (b1, b2))) w := by
  have h3 : ∀ (x y : Int) (w : World), (Op.equalIn (d + 1) 3 (.int .i64 x) (.int .i64 y)).run Try.prog w = .ok (x == y) w := fun x y w => run_equalIn_int (P := Try.prog) w d 3 .i64 .i64 x y Try.underlying3
  have h4 : ∀ (x y : Bool) (w : World), (Op.equalIn (d + 1) 4 (.bool x) (.bool y)).run Try.prog w = .ok (x == y) w := fun x y w => by
    rw [Op.equalIn]
    simp [run_underlying Try.underlying4]
  have p0 : ∀ (w : World) (x y : Value), (part 3 #[x, y] 0).run Try.prog w = .ok x w := fun w x y => by kernel_rfl
  have p1 : ∀ (w : World) (x y : Value), (part 4 #[x, y] 1).run Try.prog w = .ok y w := fun w x y => by kernel_rfl
  have hst : Try.prog.stoodInHeld 110 = false := by kernel_rfl
  rw [Op.equalIn]
  simp only [Sem.run_bind, run_underlying Try.underlying110, Result.andThen_ok]
  simp [hst]
  simp only [p0, p1, Result.andThen_ok, h3, h4]
  by_cases e1 : a1 = b1
  · by_cases e2 : a2 = b2 <;> simp [e1, e2]
  · simp [e1]
theorem eq110 (a1 b1 : Int) (a2 b2 : Bool) (w : World) : (Op.equalIn 10000 110 (.agg #[.int .i64 a1, .bool a2]) (.agg #[.int .i64 b1, .bool b2])).run Try.prog w = .ok (decide ((a1, a2) = (b1, b2))) w := eqS110 9998 a1 b1 a2 b2 w

/-- symbols behind a place -/
theorem rdY_drop {w : World} {b off n c : Nat} {L : List Sy} (h : RdY w (.slice (some ⟨b, off, none⟩) n c) L) (k : Nat) (m c' : Nat) (hm : m = (L.drop k).length) (hc : m ≤ c') : RdY w (.slice (some ⟨b, off + k * 2, none⟩) m c') (L.drop k) := by
  obtain ⟨A', c1, h1, h2, h3⟩ := h
  simp only [Value.slice.injEq] at h1
  obtain ⟨rfl, -, -⟩ := h1
  subst hm
  refine ⟨_, c', rfl, hc, fun hne => ?_⟩
  obtain ⟨b', off', h4, h5, h6⟩ := h3 (fun e => by rw [e] at hne; simp at hne)
  simp only [Option.some.injEq, Addr.mk.injEq, and_true] at h4
  obtain ⟨rfl, rfl⟩ := h4
  refine ⟨b, off + k * 2, rfl, h5, fun i x hx => ?_⟩
  rw [List.getElem?_drop] at hx
  have := h6 (k + i) x hx
  rwa [show off + (k + i) * 2 = off + k * 2 + i * 2 by omega] at this
theorem rdY_nil0 (w : World) (A : Option Addr) (c : Nat) : RdY w (.slice A 0 c) [] := ⟨A, c, rfl, Nat.zero_le _, fun h => absurd rfl h⟩
theorem rdY_from {w : World} {A : Option Addr} {n c k : Nat} {L : List Sy} (h : RdY w (.slice A n c) L) (hk : k ≤ n) : RdY w (.slice (if c = k then A else Option.map (fun x => x.add (k * 2)) A) (n - k) (c - k)) (L.drop k) := by
  obtain ⟨A', c1, h1, h2, h3⟩ := h
  simp only [Value.slice.injEq] at h1
  obtain ⟨rfl, rfl, rfl⟩ := h1
  have hl : (L.drop k).length = L.length - k := List.length_drop
  refine ⟨_, _, by rw [hl], by rw [hl]; omega, fun hne => ?_⟩
  have hpos : L.length - k ≠ 0 := fun e => hne (List.length_eq_zero_iff.1 (by rw [hl]; exact e))
  obtain ⟨b, off, rfl, h5, h6⟩ := h3 (fun e => by rw [e] at hne; simp at hne)
  rw [if_neg (by omega)]
  refine ⟨b, off + k * 2, by rw [Option.map_some, addr_add0], h5, fun i x hx => ?_⟩
  rw [List.getElem?_drop] at hx
  have := h6 (k + i) x hx
  rwa [show off + (k + i) * 2 = off + k * 2 + i * 2 by omega] at this
/-- parts of a document's path, by their places -/
def LsL (w : World) (rb n : Nat) (ps : List Tr) (v : Value) : Prop := ∃ A c, v = .slice A ps.length c ∧ ps.length ≤ c ∧ (ps ≠ [] → ∃ g off, A = some ⟨g, off, none⟩ ∧ g < w.heap.size ∧ ∀ (j : Nat) (q : Tr), ps[j]? = some q → ∃ y : Nat, w.cell? ⟨g, off + j, none⟩ = some (.int .i64 (y : Int)) ∧ y < n ∧ Lst w rb n q y)
theorem lsL_ext {w w' : World} {rb n : Nat} {ps : List Tr} {v : Value} (h : LsL w rb n ps v) (hE : Ext w w') : LsL w' rb n ps v := by
  obtain ⟨A, c, h1, h2, h3⟩ := h
  refine ⟨A, c, h1, h2, fun hne => ?_⟩
  obtain ⟨g, off, h4, h5, h6⟩ := h3 hne
  refine ⟨g, off, h4, ext_lt hE h5, fun j q hq => ?_⟩
  obtain ⟨y, k1, k2, k3⟩ := h6 j q hq
  exact ⟨y, (ext_cell hE _ _ h5).trans k1, k2, lst_ext k3 hE⟩
theorem lsL_node {w : World} {rb n : Nat} {ps : List Tr} {A : Option Addr} {c : Nat} (hl : ∀ (j : Nat) (q : Tr), ps[j]? = some q → ∃ (g y : Nat), A = some ⟨g, 0, none⟩ ∧ g < w.heap.size ∧ w.cell? ⟨g, j, none⟩ = some (.int .i64 (y : Int)) ∧ y < n ∧ Lst w rb n q y) (hc : ps.length ≤ c) : LsL w rb n ps (.slice A ps.length c) := by
  refine ⟨A, c, rfl, hc, fun hne => ?_⟩
  obtain ⟨q0, hq0⟩ : ∃ q, ps[0]? = some q := ⟨_, List.getElem?_eq_getElem (List.length_pos_iff.2 hne)⟩
  obtain ⟨g, y, rfl, hg, _⟩ := hl 0 q0 hq0
  refine ⟨g, 0, rfl, hg, fun j q hq => ?_⟩
  obtain ⟨g', y', e, h2, h3, h4, h5⟩ := hl j q hq
  simp only [Option.some.injEq, Addr.mk.injEq, and_true] at e
  subst e
  rw [Nat.zero_add]
  exact ⟨y', h3, h4, h5⟩

def RTk (N M : Nat) : Prop := ∀ (t : Tr) (rb n x : Nat) (v : Value) (u : List Sy) (w : World), sizeT t ≤ N → u.length ≤ M → formB t = true → n ≤ 100 → Lst w rb n t x → RdY w v u → Calls Try.prog 33 #[.slice (some ⟨rb, 0, none⟩) n n, .int .i64 (x : Int), v] w fun e w' => e = .returned (.bool (tk t u)) ∧ Ext w w'
def RPk (N M : Nat) : Prop := ∀ (ps : List Tr) (rb n : Nat) (l v : Value) (u : List Sy) (w : World), ps ≠ [] → sizeL ps ≤ N → u.length ≤ M → formL ps = true → n ≤ 100 → LsL w rb n ps l → RdY w v u → Calls Try.prog 65 #[.slice (some ⟨rb, 0, none⟩) n n, l, v] w fun e w' => e = .returned (.bool (tkS ps u)) ∧ Ext w w'

theorem rpk_one {N M : Nat} (hT : RTk N M) (p : Tr) (rb n : Nat) (l v : Value) (u : List Sy) (w : World) (hN : sizeT p ≤ N) (hM : u.length ≤ M) (hF : formB p = true) (hn : n ≤ 100) (hl : LsL w rb n [p] l) (hu : RdY w v u) : Calls Try.prog 65 #[.slice (some ⟨rb, 0, none⟩) n n, l, v] w fun e w' => e = .returned (.bool (tkS [p] u)) ∧ Ext w w' := by
  obtain ⟨A, c, rfl, hc, hA⟩ := hl
  obtain ⟨g, off, rfl, lg, hA⟩ := hA (by simp)
  obtain ⟨y, hy, hyn, hly⟩ := hA 0 p rfl
  rw [Nat.add_zero] at hy
  have he : tkS [p] u = tk p u := by rw [Bool.eq_iff_iff, tkS_iff, tk_iff, wordsSeq_one]
  rw [he]
  have HT := Lib.hid hT
  have HL := Lib.hid hly
  have HU := Lib.hid hu
  have hln : ([p] : List Tr).length = 1 := rfl
  rw [hln] at hc ⊢
  clear hT hA hly hu he hln
  go_enter Try.func65, Try.ntmps65
  go_wp2_with fail
  refine (HT.out p rb n y v u _ hN hM hF hn HL.out HU.out).mono ?_
  rintro e w1 ⟨rfl, hE1⟩
  have HE1 := Lib.hid hE1
  clear hE1
  go_wp2
  refine bodyPost_ret (results_tmp rfl _ _ _) rfl ?_
  exact ⟨rfl, HE1.out⟩
theorem rpk_more {N M : Nat} (hT : RTk N M) (p q : Tr) (r : List Tr) (hP : ∀ (rb n : Nat) (l v : Value) (u : List Sy) (w : World), u.length ≤ M → n ≤ 100 → LsL w rb n (q :: r) l → RdY w v u → Calls Try.prog 65 #[.slice (some ⟨rb, 0, none⟩) n n, l, v] w fun e w' => e = .returned (.bool (tkS (q :: r) u)) ∧ Ext w w')
    (rb n : Nat) (l v : Value) (u : List Sy) (w : World) (hN : sizeT p ≤ N) (hlen : r.length ≤ 100000) (hM : u.length ≤ M) (hM0 : M ≤ 1000) (hF : formB p = true) (hn : n ≤ 100) (hl : LsL w rb n (p :: q :: r) l) (hu : RdY w v u) : Calls Try.prog 65 #[.slice (some ⟨rb, 0, none⟩) n n, l, v] w fun e w' => e = .returned (.bool (tkS (p :: q :: r) u)) ∧ Ext w w' := by
  obtain ⟨A, c, rfl, hc, hA⟩ := hl
  obtain ⟨g, off, rfl, lg, hA⟩ := hA (by simp)
  obtain ⟨y, hy, hyn, hly⟩ := hA 0 p rfl
  rw [Nat.add_zero] at hy
  have htail : ∀ c', r.length + 1 ≤ c' → LsL w rb n (q :: r) (.slice (some ⟨g, off + 1, none⟩) (r.length + 1) c') := fun c' hc' => ⟨_, c', rfl, hc', fun _ => ⟨g, off + 1, rfl, lg, fun j t ht => by
    obtain ⟨z, h1, h2⟩ := hA (j + 1) t (by simpa using ht)
    exact ⟨z, by rw [show off + 1 + j = off + (j + 1) by omega]; exact h1, h2⟩⟩⟩
  obtain ⟨A2, c2, rfl, hc2, hA2⟩ := hu
  have HU := Lib.hid (show RdY w (.slice A2 u.length c2) u from ⟨A2, c2, rfl, hc2, hA2⟩)
  have HT := Lib.hid hT
  have HP := Lib.hid hP
  have HL := Lib.hid hly
  have HTL := Lib.hid htail
  have hln : (p :: q :: r : List Tr).length = r.length + 2 := rfl
  rw [hln] at hc ⊢
  obtain ⟨m, hm⟩ : ∃ m, m = r.length + 2 := ⟨_, rfl⟩
  have hm1 : r.length + 1 = m - 1 := by omega
  rw [hm1] at HTL
  rw [← hm] at hc ⊢
  have h1 : ((m : Int) == 1) = false := by rw [beq_eq_false_iff_ne]; omega
  have hm0 : (0 : Int) < (m : Int) := by omega
  have hm2 : (1 : Int) ≤ (m : Int) := by omega
  have hmc : (m : Int) ≤ (c : Int) := by omega
  have hm3 : 2 ≤ m := by omega
  have hm4 : 0 < m := by omega
  have hm5 : 1 ≤ m := by omega
  have hm6 : 1 ≤ c := by omega
  have hc1 : c ≠ 1 := by omega
  have hc20 : (u.length : Int) ≤ (c2 : Int) := by omega
  clear hm hm1
  clear hT hP hA2 hly htail hln
  go_enter Try.func65, Try.ntmps65
  go_wp2
  go_loopw [7] (fun x wr => ∃ k : Nat, k ≤ u.length + 1 ∧ x = .int .i64 (k : Int) ∧ (∀ k', k' < k → ¬ (tk p (u.take k') = true ∧ tkS (q :: r) (u.drop k') = true)) ∧ Ext w wr) (fun x _ => u.length + 1 - (intOf x).toNat)
  case atStart => exact ⟨0, Nat.zero_le _, rfl, fun k' h => by omega, ext_refl _⟩
  case round =>
    rename World => wr
    obtain ⟨k, hk, rfl, hno, hE⟩ := hrel
    have HNO := Lib.hid hno
    have HE := Lib.hid hE
    have hy' := (ext_cell HE.out _ _ lg).trans hy
    have lg' := ext_lt HE.out lg
    clear hno hE
    by_cases hlt : k ≤ u.length
    · have hki : (k : Int) ≤ (u.length : Int) := by omega
      have hk0 : (0 : Int) ≤ (k : Int) := by omega
      have hkc : k ≤ c2 := by omega
      have hgc := cell_grown
      have hcall : ∀ W', Ext wr W' → Calls Try.prog 33 #[.slice (some ⟨rb, 0, none⟩) n n, .int .i64 (y : Int), .slice A2 k c2] W' fun e w'' => e = .returned (.bool (tk p (u.take k))) ∧ Ext W' w'' := fun W' hE' =>
        HT.out p rb n y _ (u.take k) W' hN (by rw [List.length_take]; omega) hF hn (lst_ext HL.out (ext_trans HE.out hE')) (rdY_take (rdY_ext HU.out (ext_trans HE.out hE')) hlt _ hkc)
      have hcall2 : ∀ W', Ext wr W' → Calls Try.prog 65 #[.slice (some ⟨rb, 0, none⟩) n n, .slice (some ⟨g, off + 1, none⟩) (m - 1) (c - 1), .slice (if c2 = k then A2 else Option.map (fun x => x.add (k * 2)) A2) (u.length - k) (c2 - k)] W' fun e w'' => e = .returned (.bool (tkS (q :: r) (u.drop k))) ∧ Ext W' w'' := fun W' hE' =>
        HP.out rb n _ _ (u.drop k) W' (by rw [List.length_drop]; omega) hn (lsL_ext (HTL.out _ (by omega)) (ext_trans HE.out hE')) (rdY_from (rdY_ext HU.out (ext_trans HE.out hE')) hlt)
      cases hb : tk p (u.take k) with
      | false =>
        rw [hb] at hcall
        have HB := Lib.hid hb
        have HC := Lib.hid hcall
        clear hb hcall hcall2
        go_wp2
        refine wp_region_free 17 [0, 1, 2, 3, 4, 5, 6, 7, 8, 9, 10, 11, 12, 13, 14, 15, 16] [] (by kernel_rfl) (by kernel_rfl) ?_
        repeat (refine wpLoose_step rfl (fun K hK => ?_); (try simp only [Oper.quietAt, Oper.quietUpon]); go_simp; first | (refine hK _ ?_; clear hK K) | (apply Exists.intro; refine ⟨fun p => ?_, hK _ ?_⟩; (go_at_call 33; exact HC.out _ (ext_grow (ext_refl _) _ _)); clear hK K))
        refine wpLoose_nil (wpFresh_nil (fun w3 hE3 _ => ?_))
        have HE3 := Lib.hid hE3
        clear hE3
        simp only [List.drop_succ_cons, List.drop_zero]
        refine wpList_nil ?_
        go_wp2
        go_roundw
        case rel => exact ⟨k + 1, by omega, by go_num, fun k' hk' => by
          by_cases h : k' < k
          · exact HNO.out k' h
          · obtain rfl : k' = k := by omega
            rw [HB.out]; simp, ext_trans HE.out HE3.out⟩
        case measure => simp [intOf]; omega
      | true =>
        rw [hb] at hcall
        have HB := Lib.hid hb
        have HC := Lib.hid hcall
        clear hb hcall
        cases hb2 : tkS (q :: r) (u.drop k) with
        | false =>
          rw [hb2] at hcall2
          have HB2 := Lib.hid hb2
          have HC2 := Lib.hid hcall2
          clear hb2 hcall2
          go_wp2
          refine wp_region_free 17 [0, 1, 2, 3, 4, 5, 6, 7, 8, 9, 10, 11, 12, 13, 14, 15, 16] [] (by kernel_rfl) (by kernel_rfl) ?_
          repeat (refine wpLoose_step rfl (fun K hK => ?_); (try simp only [Oper.quietAt, Oper.quietUpon]); go_simp; first | (refine hK _ ?_; clear hK K) | (apply Exists.intro; refine ⟨fun p => ?_, hK _ ?_⟩; (first | (go_at_call 33; exact HC.out _ (ext_grow (ext_refl _) _ _)) | (go_at_call 65; exact HC2.out _ (ext_grow (ext_refl _) _ _))); clear hK K))
          refine wpLoose_nil (wpFresh_nil (fun w3 hE3 _ => ?_))
          have HE3 := Lib.hid hE3
          clear hE3
          simp only [List.drop_succ_cons, List.drop_zero]
          refine wpList_nil ?_
          go_wp2
          go_roundw
          case rel => exact ⟨k + 1, by omega, by go_num, fun k' hk' => by
            by_cases h : k' < k
            · exact HNO.out k' h
            · obtain rfl : k' = k := by omega
              rw [HB2.out]; simp, ext_trans HE.out HE3.out⟩
          case measure => simp [intOf]; omega
        | true =>
          rw [hb2] at hcall2
          have HB2 := Lib.hid hb2
          have HC2 := Lib.hid hcall2
          clear hb2 hcall2
          go_wp2
          refine wp_region_free 17 [0, 1, 2, 3, 4, 5, 6, 7, 8, 9, 10, 11, 12, 13, 14, 15, 16] [] (by kernel_rfl) (by kernel_rfl) ?_
          repeat (refine wpLoose_step rfl (fun K hK => ?_); (try simp only [Oper.quietAt, Oper.quietUpon]); go_simp; first | (refine hK _ ?_; clear hK K) | (apply Exists.intro; refine ⟨fun p => ?_, hK _ ?_⟩; (first | (go_at_call 33; exact HC.out _ (ext_grow (ext_refl _) _ _)) | (go_at_call 65; exact HC2.out _ (ext_grow (ext_refl _) _ _))); clear hK K))
          refine wpLoose_nil (wpFresh_nil (fun w3 hE3 _ => ?_))
          have HE3 := Lib.hid hE3
          clear hE3
          simp only [List.drop_succ_cons, List.drop_zero]
          refine wpList_nil ?_
          go_wp2
          all_goals refine bodyPost_ret (results_tmp rfl _ _ _) rfl ?_
          all_goals exact ⟨by rw [(tkS_iff _ _).2 ((wordsSeq_cut p (q :: r) u).2 ⟨k, hlt, (tk_iff _ _).1 HB.out, (tkS_iff _ _).1 HB2.out⟩)]; rfl, ext_trans HE.out HE3.out⟩
    · have hki : ¬ (k : Int) ≤ (u.length : Int) := by omega
      go_wp2
      refine bodyPost_ret (results_tmp rfl _ _ _) rfl ?_
      exact ⟨by
        rw [tkS_false]
        · rfl
        · intro h
          obtain ⟨k', h1, h2, h3⟩ := (wordsSeq_cut p (q :: r) u).1 h
          exact HNO.out k' (by omega) ⟨(tk_iff _ _).2 h2, (tkS_iff _ _).2 h3⟩, HE.out⟩
end Go.Proofs.Ytiabmdboacpmcaa
