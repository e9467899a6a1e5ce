/- Begin, Next, Final, Takes. -/
import Derived.ChangeKeysEq
import Derived.Test.YtiabmdboacpmcaaPo
namespace Go.Proofs.Ytiabmdboacpmcaa
open Go Go.RowKit Go.Sort
set_option maxHeartbeats 1000000

theorem eqS (d : Nat) (a1 b1 : Int) (a2 b2 : Bool) (w : World) : (Op.equalIn (d + 2) 42 (.agg #[.int .i64 a1, .bool a2]) (.agg #[.int .i64 b1, .bool b2])).run Try.prog w = .ok (decide ((a1, a2) = (b1, b2))) w := by
  have h3 : ∀ (x y : Int) (w : World), (Op.equalIn (d + 1) 3 (.int .i64 x) (.int .i64 y)).run Try.prog w = .ok (x == y) w := fun x y w => run_equalIn_int (P := Try.prog) w d 3 .i64 .i64 x y Try.underlying3
  have h4 : ∀ (x y : Bool) (w : World), (Op.equalIn (d + 1) 4 (.bool x) (.bool y)).run Try.prog w = .ok (x == y) w := fun x y w => by
    rw [Op.equalIn]
    simp [run_underlying Try.underlying4]
  have p0 : ∀ (w : World) (x y : Value), (part 3 #[x, y] 0).run Try.prog w = .ok x w := fun w x y => by kernel_rfl
  have p1 : ∀ (w : World) (x y : Value), (part 4 #[x, y] 1).run Try.prog w = .ok y w := fun w x y => by kernel_rfl
  have hst : Try.prog.stoodInHeld 42 = false := by kernel_rfl
  rw [Op.equalIn]
  simp only [Sem.run_bind, run_underlying Try.underlying42, Result.andThen_ok]
  simp [hst]
  simp only [p0, p1, Result.andThen_ok, h3, h4]
  by_cases e1 : a1 = b1
  · by_cases e2 : a2 = b2 <;> simp [e1, e2]
  · simp [e1]
theorem eq42 (a1 b1 : Int) (a2 b2 : Bool) (w : World) : (Op.equalIn 10000 42 (.agg #[.int .i64 a1, .bool a2]) (.agg #[.int .i64 b1, .bool b2])).run Try.prog w = .ok (decide ((a1, a2) = (b1, b2))) w := eqS 9998 a1 b1 a2 b2 w
theorem way_snoc_sym {E : List Mv} {a : Sy} {b s : Nat} {w : List Sy} : Way E b (w ++ [a]) s ↔ ∃ d e, Way E b w d ∧ (d, some a, e) ∈ E ∧ Way E e [] s := by
  constructor
  · intro h
    obtain ⟨u, hu⟩ : ∃ u, u = w ++ [a] := ⟨_, rfl⟩
    rw [← hu] at h
    induction h generalizing w with
    | nil s => simp at hu
    | free hm _ ih =>
      obtain ⟨d, e, h1, h2, h3⟩ := ih hu
      exact ⟨d, e, .free hm h1, h2, h3⟩
    | sym hm h4 ih =>
      rename_i s0 d0 e0 a0 w0
      cases w with
      | nil =>
        simp only [List.nil_append, List.cons.injEq] at hu
        obtain ⟨rfl, rfl⟩ := hu
        exact ⟨s0, d0, .nil _, hm, h4⟩
      | cons x r =>
        simp only [List.cons_append, List.cons.injEq] at hu
        obtain ⟨rfl, rfl⟩ := hu
        obtain ⟨d, e, h1, h2, h3⟩ := ih rfl
        exact ⟨d, e, .sym hm h1, h2, h3⟩
  · rintro ⟨d, e, h1, h2, h3⟩
    have := h1.trans (.sym h2 h3)
    simpa using this
/-- the states that a word leads to -/
def IsSet (E : List Mv) (b : Nat) (w : List Sy) (L : List Nat) : Prop := L.Pairwise (· < ·) ∧ ∀ s, s ∈ L ↔ Way E b w s
/-- where states lead -/
def IsNext (E : List Mv) (S : List Nat) (a : Sy) (L : List Nat) : Prop := L.Pairwise (· < ·) ∧ ∀ s, s ∈ L ↔ ∃ k ∈ S, ∃ d, (k, some a, d) ∈ E ∧ Way E d [] s
theorem isSet_begin {E : List Mv} {b : Nat} {L : List Nat} (h : IsClo E [b] L) : IsSet E b [] L := ⟨h.1, fun s => by rw [h.2]; simp [Reach0]⟩
theorem isSet_next {E : List Mv} {b : Nat} {w : List Sy} {a : Sy} {L L' : List Nat} (h : IsSet E b w L) (k : IsNext E L a L') : IsSet E b (w ++ [a]) L' := ⟨k.1, fun s => by
  rw [k.2, way_snoc_sym]
  constructor
  · rintro ⟨d, h1, e, h2, h3⟩
    exact ⟨d, e, (h.2 d).1 h1, h2, h3⟩
  · rintro ⟨d, e, h1, h2, h3⟩
    exact ⟨d, (h.2 d).2 h1, e, h2, h3⟩⟩
theorem way_lt {E : List Mv} {m b s : Nat} {w : List Sy} (hd : ∀ s o d, (s, o, d) ∈ E → d < m) (hb : b < m) (h : Way E b w s) : s < m := by
  induction h with
  | nil => exact hb
  | free hm _ ih => exact ih (hd _ _ _ hm)
  | sym hm _ ih => exact ih (hd _ _ _ hm)

/-- a machine as its methods need it -/
structure Mach (W : World) (p m b : Nat) (en : Int) (mv : List Mv) (w : World) : Prop where
  cur : Cur W p b en mv m w
  lt : b < m
  dst : ∀ s o d, (s, o, d) ∈ mv → d < m
  hm : m ≤ 1000
  hl : mv.length ≤ 1000
theorem mach_ext {W w w' : World} {p m b : Nat} {en : Int} {mv : List Mv} (h : Mach W p m b en mv w) (hE : Ext w w') : Mach W p m b en mv w' := ⟨cur_ext h.cur hE, h.lt, h.dst, h.hm, h.hl⟩
def SetRow (P : List Nat → Prop) (w : World) (e : Ending) (w' : World) : Prop := ∃ A c L, e = .returned (.slice A L.length c) ∧ rowF elN w.heap.size L (.slice A L.length c) w' ∧ P L ∧ Ext w w'
theorem begin_any (W w : World) (p m b : Nat) (en : Int) (mv : List Mv) (h : Mach W p m b en mv w) : Calls Try.prog 28 #[.pointer (some ⟨p, 0, none⟩)] w (SetRow (IsSet mv b []) w) := by
  have H := Lib.hid h
  obtain ⟨A0, c0, hpb⟩ := cur_zero h.cur
  have q0 := block_cell hpb 1
  have lp := block_lt hpb
  simp at q0
  clear h hpb
  go_enter Try.func28, Try.ntmps28
  go_wp2_with fail
  have hE : Ext w (w.alloc (.cells #[.int .i64 (b : Int)] 3)) := ext_alloc (ext_refl _) _
  have hone : rowE elN (w.alloc (.cells #[.int .i64 (b : Int)] 3)) (.slice (some ⟨w.heap.size, 0, none⟩) 1 1) [b] := ⟨rfl, .inr ⟨w.heap.size, 1, #[.int .i64 (b : Int)], rfl, Nat.zero_le _, heap_alloc_new _ _, Nat.le_refl _, by decide, rfl, rfl⟩⟩
  refine (closed_any W _ p m b en mv _ [b] (cur_ext H.out.cur hE) (rdN_row hone) (fun s hs => by rw [List.mem_singleton.1 hs]; exact H.out.lt) H.out.dst H.out.hm H.out.hl (by simp)).mono ?_
  rintro e w1 ⟨A, c, L, rfl, hr, hc, hE1⟩
  have HR := Lib.hid (rowF_low hr (ext_size hE))
  have HCL := Lib.hid (isSet_begin hc)
  have HE := Lib.hid (ext_trans hE hE1)
  clear hr hc hE hE1 hone
  go_wp2
  refine bodyPost_ret (results_tmp rfl _ _ _) rfl ?_
  exact ⟨A, c, L, rfl, HR.out, HCL.out, HE.out⟩
theorem final_any (W w : World) (p m b n : Nat) (mv : List Mv) (v : Value) (L : List Nat) (h : Mach W p m b n mv w) (hv : RdN w v L) (hl : L.length ≤ 1000000000) : Calls Try.prog 32 #[.pointer (some ⟨p, 0, none⟩), v] w fun e w' => e = .returned (.bool (decide (n ∈ L))) ∧ w' = w := by
  have HC := Lib.hid (containsN_any v L n w hv hl)
  obtain ⟨A, c, rfl, -, -⟩ := hv
  obtain ⟨A0, c0, hpb⟩ := cur_zero h.cur
  have q0 := block_cell hpb 2
  have lp := block_lt hpb
  simp at q0
  clear h hpb
  go_enter Try.func32, Try.ntmps32
  go_wp2_with (go_at_call 64; refine HC.out.mono ?_; rintro e w1 ⟨rfl, rfl⟩)
  refine bodyPost_ret (results_tmp rfl _ _ _) rfl ?_
  exact ⟨rfl, rfl⟩

/-- the ends of what a symbol leads along -/
def symD (a : Sy) (l : List Mo) : List Nat := l.filterMap fun m => if m.1 = some a then some m.2 else none
theorem symD_mem {a : Sy} {l : List Mo} {d : Nat} : d ∈ symD a l ↔ (some a, d) ∈ l := by
  simp only [symD, List.mem_filterMap]
  constructor
  · rintro ⟨⟨o, d'⟩, h1, h2⟩
    split at h2
    · rename_i h
      simp only at h
      cases h2
      exact h ▸ h1
    · cases h2
  · exact fun h => ⟨_, h, by simp⟩
theorem symD_len (a : Sy) (l : List Mo) : (symD a l).length ≤ l.length := List.length_filterMap_le _ _
theorem symD_yes {a : Sy} {l : List Mo} {j d : Nat} (h : l[j]? = some (some a, d)) : symD a (l.take (j + 1)) = symD a (l.take j) ++ [d] := by
  rw [List.take_add_one, h]
  simp [symD]
theorem symD_no {a : Sy} {o : Option Sy} {l : List Mo} {j d : Nat} (h : l[j]? = some (o, d)) (hne : o ≠ some a) : symD a (l.take (j + 1)) = symD a (l.take j) := by
  rw [List.take_add_one, h]
  simp [symD, hne]
set_option maxRecDepth 100000 in
theorem next_any (W w : World) (p m b : Nat) (en : Int) (mv : List Mv) (v : Value) (S : List Nat) (a : Sy) (h : Mach W p m b en mv w) (hv : RdN w v S) (hS : ∀ s ∈ S, s < m) (hSl : S.length ≤ 10000) :
    Calls Try.prog 30 #[.pointer (some ⟨p, 0, none⟩), v, .agg #[.int .i64 a.1, .bool a.2]] w (SetRow (IsNext mv S a) w) := by
  have H := Lib.hid h
  have HV := Lib.hid hv
  obtain ⟨A0, c0, rfl, -, hA⟩ := hv
  have HA := Lib.hid hA
  have HS := Lib.hid hS
  clear h hS hA
  obtain ⟨a1, a2⟩ := a
  obtain ⟨w1, hw1⟩ : ∃ w1, w1 = w.alloc (.cells #[.int .i64 a1, .bool a2] 42) := ⟨_, rfl⟩
  have HE1 := Lib.hid (show Ext w w1 by rw [hw1]; exact ext_alloc (ext_refl _) _)
  have HB := Lib.hid (show w1.heap[w.heap.size]? = some (.cells #[.int .i64 a1, .bool a2] 42 (0, 0)) by rw [hw1]; exact heap_alloc_new _ _)
  go_enter Try.func30, Try.ntmps30
  go_wp2
  rw [← hw1]
  clear hw1
  go_loopw [14, 7] (fun x y wr => ∃ (j : Nat) (T : List Nat) (B : Option Addr) (d : Nat), j ≤ S.length ∧ x = .int .i64 j ∧ y = .slice B T.length d ∧ (∀ e, e ∈ T ↔ ∃ k ∈ S.take j, (k, some (a1, a2), e) ∈ mv) ∧ T.length ≤ j * 1000 ∧ rowF elN w.heap.size T (.slice B T.length d) wr ∧ Ext w wr ∧
    wr.heap[w.heap.size]? = some (.cells #[.int .i64 a1, .bool a2] 42 (0, 0))) (fun x _ _ => S.length - (intOf x).toNat)
  case atStart => exact ⟨0, [], none, 0, Nat.zero_le _, rfl, rfl, fun e => by simp, by simp, rowF_nil _ _, HE1.out, HB.out⟩
  case round =>
    rename World => wo
    obtain ⟨j, T, B, d, hj, rfl, rfl, hT, hTl, hro, hE, hB⟩ := hrel
    have HT := Lib.hid hT
    have RO := Lib.hid hro
    have HE := Lib.hid hE
    have HB0 := Lib.hid hB
    clear hT hro hE hB
    by_cases hlt : j < S.length
    · have hji : (j : Int) < (S.length : Int) := by omega
      have hj0 : (0 : Int) ≤ (j : Int) := by omega
      obtain ⟨s, hs⟩ : ∃ s, S[j]? = some s := ⟨_, List.getElem?_eq_getElem hlt⟩
      obtain ⟨b1, off, hA0, hb, hca⟩ := HA.out (fun e => by rw [e] at hs; simp at hs)
      subst hA0
      have q0 := (ext_cell HE.out _ _ hb).trans (hca j s hs)
      have lb := ext_lt HE.out hb
      have hsm := HS.out s (List.mem_of_getElem? hs)
      have hsi : (s : Int) < (m : Int) := by omega
      have hs0 : (0 : Int) ≤ (s : Int) := by omega
      obtain ⟨gl, cl, l, Al, c2, r0, lp3, r1, lgl, hlr, hlm, hll⟩ := cur_row (cur_ext H.out.cur HE.out) hsm
      have hml := H.out.hl
      have HLR := Lib.hid hlr
      have HLM := Lib.hid hlm
      have HSJ := Lib.hid hs
      clear hlr hlm hs hca
      go_wp2
      clear r0 lp3 r1 lgl q0 lb
      go_loopw [26, 7] (fun x y wr => ∃ (i : Nat) (T' : List Nat) (B : Option Addr) (d : Nat), i ≤ l.length ∧ x = .int .i64 i ∧ y = .slice B T'.length d ∧ T' = T ++ symD (a1, a2) (l.take i) ∧ rowF elN w.heap.size T' (.slice B T'.length d) wr ∧ Ext w wr ∧
        wr.heap[w.heap.size]? = some (.cells #[.int .i64 a1, .bool a2] 42 (0, 0)) ∧ rowE elM wr (.slice Al l.length c2) l) (fun x _ _ => l.length - (intOf x).toNat)
      case atStart => exact ⟨0, T, B, d, Nat.zero_le _, rfl, rfl, by simp [symD], RO.out, HE.out, HB0.out, HLR.out⟩
      case round =>
        rename World => wq
        obtain ⟨i, T', B5, d5, hi, rfl, rfl, hT', hro', hE', hB', hml'⟩ := hrel
        have HT' := Lib.hid hT'
        have RO' := Lib.hid hro'
        have HE' := Lib.hid hE'
        have HBq := Lib.hid hB'
        have ML := Lib.hid hml'
        have hTl' : T'.length ≤ T.length + 1000 := by
          rw [hT', List.length_append]
          have := symD_len (a1, a2) (l.take i)
          have := List.length_take_le i l
          omega
        clear hT' hro' hE' hB' hml'
        by_cases hlt2 : i < l.length
        · have hii : (i : Int) < (l.length : Int) := by omega
          have hi0 : (0 : Int) ≤ (i : Int) := by omega
          obtain ⟨x, hx⟩ : ∃ x, l[i]? = some x := ⟨_, List.getElem?_eq_getElem hlt2⟩
          obtain ⟨gm, hgm, lgm⟩ := rowE_some ML.out (fun e => by rw [e] at hx; simp at hx)
          subst hgm
          have hcells := rowE_cells4 ML.out hx
          obtain ⟨o, dd⟩ := x
          cases o with
          | none =>
            have z0 := hcells 0 _ rfl
            rw [Nat.add_zero] at z0
            have z1 := hcells 1 _ rfl
            have z2 := hcells 2 _ rfl
            have z3 := hcells 3 _ rfl
            have HX := Lib.hid hx
            clear hx hcells
            go_wp2
            go_roundw
            case rel => exact ⟨i + 1, T', B5, d5, by omega, by go_num, rfl, by rw [symD_no HX.out (by simp)]; exact HT'.out, rowF_ext _ _ _ (ext_alloc (ext_refl _) _) RO'.out, ext_alloc HE'.out _, (ext_block (ext_alloc (ext_refl _) _) (block_lt HBq.out)).trans HBq.out, rowE_ext ML.out (ext_alloc (ext_refl _) _)⟩
            case measure => simp [intOf]; omega
          | some y =>
            have z0 := hcells 0 _ rfl
            rw [Nat.add_zero] at z0
            have z1 := hcells 1 _ rfl
            have z2 := hcells 2 _ rfl
            have z3 := hcells 3 _ rfl
            have HX := Lib.hid hx
            have c0 := block_cell HBq.out 0
            have c1 := block_cell HBq.out 1
            have lc := block_lt HBq.out
            simp at c0 c1
            obtain ⟨y1, y2⟩ := y
            clear hx hcells
            by_cases hy : (y1, y2) = (a1, a2)
            · have heq : ∀ w : World, Sem.run Try.prog (Op.equalIn 10000 42 (.agg #[.int .i64 y1, .bool y2]) (.agg #[.int .i64 a1, .bool a2])) w = .ok true w := fun w => by rw [eq42, decide_eq_true hy]
              rw [hy] at HX
              clear hy
              go_wp2_with (at_builtin; refine halt_here ?_)
              refine go_on ?_
              obtain ⟨wp, hwp⟩ : ∃ wp, wp = wq.alloc (.cells #[.int .i64 y1, .bool y2, .bool false, .int .i64 (dd : Int)] 114) := ⟨_, rfl⟩
              have hEb := ext_alloc (ext_refl wq) (.cells #[.int .i64 y1, .bool y2, .bool false, .int .i64 (dd : Int)] 114)
              rw [← hwp] at hEb
              rw [← hwp]
              have HZP := Lib.hid (show wp.heap.size = wq.heap.size + 1 by rw [hwp]; simp)
              have HEB := Lib.hid hEb
              clear hEb hwp z0 z1 z2 z3 heq c0 c1 lc
              have hEa := ext_trans HEB.out (ext_alloc (ext_refl wp) (.cells #[.int .i64 (dd : Int)] 3))
              refine wpList_append rfl (.tmp 39) (.tmp 42) rfl _ _ rfl rfl (fun v' w' => rowF elN w.heap.size (T' ++ [dd]) v' w' ∧ (wp.alloc (.cells #[.int .i64 (dd : Int)] 3)).grownBy w' (Value.slice B5 T'.length d5).ownBlock) (append_onto tpN _ w.heap.size (.slice B5 T'.length d5) _ T' [dd] _ (rowF_ext _ _ _ hEa RO'.out) (srcOf_one (H := 0) ⟨wq.heap.size + 1, rfl, Nat.zero_le _, by rw [← HZP.out]; exact heap_alloc_new wp _⟩) (by simp; omega) (Nat.le_trans (ext_size HE'.out) (ext_size hEa))) ?_
              rintro v6 w6 ⟨hr6, hg6⟩
              obtain ⟨A6, c6, hv6⟩ := rowE_form hr6.1
              obtain ⟨wn, hwn⟩ : ∃ wn, wn = T' ++ [dd] := ⟨_, rfl⟩
              rw [← hwn] at hr6 hv6
              subst hv6
              have HWN := Lib.hid hwn
              have RW6 := Lib.hid hr6
              have hown := rowF_ext _ _ _ hEa RO'.out
              have HB6 := Lib.hid (((upd_grown hg6).block _ (ext_lt hEa (block_lt HBq.out)) (rowE_off hown.1 ((ext_block hEa (block_lt HBq.out)).trans HBq.out) (by decide))).trans ((ext_block hEa (block_lt HBq.out)).trans HBq.out))
              have ML6 := Lib.hid (rowE_upd (rowE_ext ML.out hEa) (upd_grown hg6) (fun b hb e => el_apart (rowE_ext ML.out hEa) hown.1 (by decide) hb e))
              have E6 := Lib.hid (show Ext w w6 from ext_grown (ext_trans HE'.out hEa) hg6 RO'.out.2 (Nat.le_refl _))
              clear hr6 hg6 hEa hwn hown
              go_wp2
              go_roundw
              case rel => exact ⟨i + 1, wn, A6, c6, by omega, by go_num, rfl, by rw [symD_yes HX.out, ← List.append_assoc, ← HT'.out, HWN.out], RW6.out, E6.out, HB6.out, ML6.out⟩
              case measure => simp [intOf]; omega
            · have heq : ∀ w : World, Sem.run Try.prog (Op.equalIn 10000 42 (.agg #[.int .i64 y1, .bool y2]) (.agg #[.int .i64 a1, .bool a2])) w = .ok false w := fun w => by rw [eq42, decide_eq_false hy]
              have HY := Lib.hid (show (some (y1, y2) : Option Sy) ≠ some (a1, a2) from fun e => hy (Option.some.inj e))
              clear hy
              go_wp2
              go_roundw
              case rel => exact ⟨i + 1, T', B5, d5, by omega, by go_num, rfl, by rw [symD_no HX.out HY.out]; exact HT'.out, rowF_ext _ _ _ (ext_alloc (ext_refl _) _) RO'.out, ext_alloc HE'.out _, (ext_block (ext_alloc (ext_refl _) _) (block_lt HBq.out)).trans HBq.out, rowE_ext ML.out (ext_alloc (ext_refl _) _)⟩
              case measure => simp [intOf]; omega
        · obtain rfl : i = l.length := by omega
          have HT2 := HT'
          rw [List.take_length] at HT2
          have hml := H.out.hl
          go_wp2
          go_roundw
          case rel =>
            refine ⟨j + 1, T', B5, d5, by omega, by go_num, rfl, fun e => ?_, by omega, RO'.out, HE'.out, HBq.out⟩
            rw [HT2.out, List.mem_append, HT.out e, symD_mem, HLM.out, List.take_add_one, HSJ.out]
            simp only [Option.toList_some, List.mem_append, List.mem_singleton]
            constructor
            · rintro (⟨k, h1, h2⟩ | h)
              · exact ⟨k, .inl h1, h2⟩
              · exact ⟨s, .inr rfl, h⟩
            · rintro ⟨k, h1 | rfl, h2⟩
              · exact .inl ⟨k, h1, h2⟩
              · exact .inr h2
          case measure => simp [intOf]; omega
    · obtain rfl : j = S.length := by omega
      rw [List.take_length] at HT
      have hTd : ∀ t ∈ T, t < m := fun t ht => by
        obtain ⟨k, _, h2⟩ := (HT.out t).1 ht
        exact H.out.dst _ _ _ h2
      have HTD := Lib.hid hTd
      clear hTd
      go_wp2_with fail
      refine (closed_any W wo p m b en mv _ T (cur_ext H.out.cur HE.out) (rdN_row RO.out.1) HTD.out H.out.dst H.out.hm H.out.hl (by omega)).mono ?_
      rintro e w2 ⟨A, c, L, rfl, hr, hc, hE2⟩
      have HR := Lib.hid (rowF_low hr (ext_size HE.out))
      have HN := Lib.hid (show IsNext mv S (a1, a2) L from ⟨hc.1, fun s => by
        rw [hc.2]
        constructor
        · rintro ⟨d, h1, h2⟩
          obtain ⟨k, h3, h4⟩ := (HT.out d).1 h1
          exact ⟨k, h3, d, h4, h2⟩
        · rintro ⟨k, h3, d, h4, h2⟩
          exact ⟨d, (HT.out d).2 ⟨k, h3, h4⟩, h2⟩⟩)
      have HE2 := Lib.hid (ext_trans HE.out hE2)
      clear hr hc hE2
      go_wp2
      refine bodyPost_ret (results_tmp rfl _ _ _) rfl ?_
      exact ⟨A, c, L, rfl, HR.out, HN.out, HE2.out⟩
end Go.Proofs.Ytiabmdboacpmcaa
