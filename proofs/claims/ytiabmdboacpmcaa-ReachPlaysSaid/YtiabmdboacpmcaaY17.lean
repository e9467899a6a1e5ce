/- Texts joined: Pp Pq Pr Ps Pt. -/
import Derived.ChangeKeysEq
import Derived.Test.YtiabmdboacpmcaaY16
/- Begin, Next, Final, Takes. -/
namespace Go.Proofs.Ytiabmdboacpmcaa
open Go Go.RowKit Go.Sort
set_option maxHeartbeats 1000000

theorem eqS (d : Nat) (a1 b1 : Int) (a2 b2 : Bool) (w : World) : (Op.equalIn (d + 2) 42 (.agg #[.int .i64 a1, .bool a2]) (.agg #[.int .i64 b1, .bool b2])).run Try.prog w = .ok (decide ((a1, a2) = (b1, b2))) w := by
  have h3 : ∀ (x y : Int) (w : World), (Op.equalIn (d + 1) 3 (.int .i64 x) (.int .i64 y)).run Try.prog w = .ok (x == y) w := fun x y w => run_equalIn_int (P := Try.prog) w d 3 .i64 .i64 x y Try.underlying3
  have h4 : ∀ (x y : Bool) (w : World), (Op.equalIn (d + 1) 4 (.bool x) (.bool y)).run Try.prog w = .ok (x == y) w := fun x y w => by
    rw [Op.equalIn]
    simp [run_underlying Try.underlying4]
  have p0 : ∀ (w : World) (x y : Value), (part 3 #[x, y] 0).run Try.prog w = .ok x w := fun w x y => by kernel_rfl
  have p1 : ∀ (w : World) (x y : Value), (part 4 #[x, y] 1).run Try.prog w = .ok y w := fun w x y => by kernel_rfl
  have hst : Try.prog.stoodInHeld 42 = false := by kernel_rfl
  rw [Op.equalIn]
  simp only [Sem.run_bind, run_underlying Try.underlying42, Result.andThen_ok]
  simp [hst]
  simp only [p0, p1, Result.andThen_ok, h3, h4]
  by_cases e1 : a1 = b1
  · by_cases e2 : a2 = b2 <;> simp [e1, e2]
  · simp [e1]
theorem eq42 (a1 b1 : Int) (a2 b2 : Bool) (w : World) : (Op.equalIn 10000 42 (.agg #[.int .i64 a1, .bool a2]) (.agg #[.int .i64 b1, .bool b2])).run Try.prog w = .ok (decide ((a1, a2) = (b1, b2))) w := eqS 9998 a1 b1 a2 b2 w
theorem way_snoc_sym {E : List Mv} {a : Sy} {b s : Nat} {w : List Sy} : Way E b (w ++ [a]) s ↔ ∃ d e, Way E b w d ∧ (d, some a, e) ∈ E ∧ Way E e [] s := by
  constructor
  · intro h
    obtain ⟨u, hu⟩ : ∃ u, u = w ++ [a] := ⟨_, rfl⟩
    rw [← hu] at h
    induction h generalizing w with
    | nil s => simp at hu
    | free hm _ ih =>
      obtain ⟨d, e, h1, h2, h3⟩ := ih hu
      exact ⟨d, e, .free hm h1, h2, h3⟩
    | sym hm h4 ih =>
      rename_i s0 d0 e0 a0 w0
      cases w with
      | nil =>
        simp only [List.nil_append, List.cons.injEq] at hu
        obtain ⟨rfl, rfl⟩ := hu
        exact ⟨s0, d0, .nil _, hm, h4⟩
      | cons x r =>
        simp only [List.cons_append, List.cons.injEq] at hu
        obtain ⟨rfl, rfl⟩ := hu
        obtain ⟨d, e, h1, h2, h3⟩ := ih rfl
        exact ⟨d, e, .sym hm h1, h2, h3⟩
  · rintro ⟨d, e, h1, h2, h3⟩
    have := h1.trans (.sym h2 h3)
    simpa using this
/-- the states that a word leads to -/
def IsSet (E : List Mv) (b : Nat) (w : List Sy) (L : List Nat) : Prop := L.Pairwise (· < ·) ∧ ∀ s, s ∈ L ↔ Way E b w s
/-- where states lead -/
def IsNext (E : List Mv) (S : List Nat) (a : Sy) (L : List Nat) : Prop := L.Pairwise (· < ·) ∧ ∀ s, s ∈ L ↔ ∃ k ∈ S, ∃ d, (k, some a, d) ∈ E ∧ Way E d [] s
theorem isSet_begin {E : List Mv} {b : Nat} {L : List Nat} (h : IsClo E [b] L) : IsSet E b [] L := ⟨h.1, fun s => by rw [h.2]; simp [Reach0]⟩
theorem isSet_next {E : List Mv} {b : Nat} {w : List Sy} {a : Sy} {L L' : List Nat} (h : IsSet E b w L) (k : IsNext E L a L') : IsSet E b (w ++ [a]) L' := ⟨k.1, fun s => by
  rw [k.2, way_snoc_sym]
  constructor
  · rintro ⟨d, h1, e, h2, h3⟩
    exact ⟨d, e, (h.2 d).1 h1, h2, h3⟩
  · rintro ⟨d, e, h1, h2, h3⟩
    exact ⟨d, (h.2 d).2 h1, e, h2, h3⟩⟩
theorem way_lt {E : List Mv} {m b s : Nat} {w : List Sy} (hd : ∀ s o d, (s, o, d) ∈ E → d < m) (hb : b < m) (h : Way E b w s) : s < m := by
  induction h with
  | nil => exact hb
  | free hm _ ih => exact ih (hd _ _ _ hm)
  | sym hm _ ih => exact ih (hd _ _ _ hm)

/-- a machine as its methods need it -/
structure Mach (W : World) (p m b : Nat) (en : Int) (mv : List Mv) (w : World) : Prop where
  cur : Cur W p b en mv m w
  lt : b < m
  dst : ∀ s o d, (s, o, d) ∈ mv → d < m
  hm : m ≤ 1000
  hl : mv.length ≤ 1000
theorem mach_ext {W w w' : World} {p m b : Nat} {en : Int} {mv : List Mv} (h : Mach W p m b en mv w) (hE : Ext w w') : Mach W p m b en mv w' := ⟨cur_ext h.cur hE, h.lt, h.dst, h.hm, h.hl⟩
def SetRow (P : List Nat → Prop) (w : World) (e : Ending) (w' : World) : Prop := ∃ A c L, e = .returned (.slice A L.length c) ∧ rowF elN w.heap.size L (.slice A L.length c) w' ∧ P L ∧ Ext w w'
theorem begin_any (W w : World) (p m b : Nat) (en : Int) (mv : List Mv) (h : Mach W p m b en mv w) : Calls Try.prog 28 #[.pointer (some ⟨p, 0, none⟩)] w (SetRow (IsSet mv b []) w) := by
  have H := Lib.hid h
  obtain ⟨A0, c0, hpb⟩ := cur_zero h.cur
  have q0 := block_cell hpb 1
  have lp := block_lt hpb
  simp at q0
  clear h hpb
  go_enter Try.func28, Try.ntmps28
  go_wp2_with fail
  have hE : Ext w (w.alloc (.cells #[.int .i64 (b : Int)] 3)) := ext_alloc (ext_refl _) _
  have hone : rowE elN (w.alloc (.cells #[.int .i64 (b : Int)] 3)) (.slice (some ⟨w.heap.size, 0, none⟩) 1 1) [b] := ⟨rfl, .inr ⟨w.heap.size, 1, #[.int .i64 (b : Int)], rfl, Nat.zero_le _, heap_alloc_new _ _, Nat.le_refl _, by decide, rfl, rfl⟩⟩
  refine (closed_any W _ p m b en mv _ [b] (cur_ext H.out.cur hE) (rdN_row hone) (fun s hs => by rw [List.mem_singleton.1 hs]; exact H.out.lt) H.out.dst H.out.hm H.out.hl (by simp)).mono ?_
  rintro e w1 ⟨A, c, L, rfl, hr, hc, hE1⟩
  have HR := Lib.hid (rowF_low hr (ext_size hE))
  have HCL := Lib.hid (isSet_begin hc)
  have HE := Lib.hid (ext_trans hE hE1)
  clear hr hc hE hE1 hone
  go_wp2
  refine bodyPost_ret (results_tmp rfl _ _ _) rfl ?_
  exact ⟨A, c, L, rfl, HR.out, HCL.out, HE.out⟩
theorem final_any (W w : World) (p m b n : Nat) (mv : List Mv) (v : Value) (L : List Nat) (h : Mach W p m b n mv w) (hv : RdN w v L) (hl : L.length ≤ 1000000000) : Calls Try.prog 32 #[.pointer (some ⟨p, 0, none⟩), v] w fun e w' => e = .returned (.bool (decide (n ∈ L))) ∧ w' = w := by
  have HC := Lib.hid (containsN_any v L n w hv hl)
  obtain ⟨A, c, rfl, -, -⟩ := hv
  obtain ⟨A0, c0, hpb⟩ := cur_zero h.cur
  have q0 := block_cell hpb 2
  have lp := block_lt hpb
  simp at q0
  clear h hpb
  go_enter Try.func32, Try.ntmps32
  go_wp2_with (go_at_call 64; refine HC.out.mono ?_; rintro e w1 ⟨rfl, rfl⟩)
  refine bodyPost_ret (results_tmp rfl _ _ _) rfl ?_
  exact ⟨rfl, rfl⟩

/-- the ends of what a symbol leads along -/
def symD (a : Sy) (l : List Mo) : List Nat := l.filterMap fun m => if m.1 = some a then some m.2 else none
theorem symD_mem {a : Sy} {l : List Mo} {d : Nat} : d ∈ symD a l ↔ (some a, d) ∈ l := by
  simp only [symD, List.mem_filterMap]
  constructor
  · rintro ⟨⟨o, d'⟩, h1, h2⟩
    split at h2
    · rename_i h
      simp only at h
      cases h2
      exact h ▸ h1
    · cases h2
  · exact fun h => ⟨_, h, by simp⟩
theorem symD_len (a : Sy) (l : List Mo) : (symD a l).length ≤ l.length := List.length_filterMap_le _ _
theorem symD_yes {a : Sy} {l : List Mo} {j d : Nat} (h : l[j]? = some (some a, d)) : symD a (l.take (j + 1)) = symD a (l.take j) ++ [d] := by
  rw [List.take_add_one, h]
  simp [symD]
theorem symD_no {a : Sy} {o : Option Sy} {l : List Mo} {j d : Nat} (h : l[j]? = some (o, d)) (hne : o ≠ some a) : symD a (l.take (j + 1)) = symD a (l.take j) := by
  rw [List.take_add_one, h]
  simp [symD, hne]
set_option maxRecDepth 100000 in
theorem next_any (W w : World) (p m b : Nat) (en : Int) (mv : List Mv) (v : Value) (S : List Nat) (a : Sy) (h : Mach W p m b en mv w) (hv : RdN w v S) (hS : ∀ s ∈ S, s < m) (hSl : S.length ≤ 10000) :
    Calls Try.prog 30 #[.pointer (some ⟨p, 0, none⟩), v, .agg #[.int .i64 a.1, .bool a.2]] w (SetRow (IsNext mv S a) w) := by
  have H := Lib.hid h
  have HV := Lib.hid hv
  obtain ⟨A0, c0, rfl, -, hA⟩ := hv
  have HA := Lib.hid hA
  have HS := Lib.hid hS
  clear h hS hA
  obtain ⟨a1, a2⟩ := a
  obtain ⟨w1, hw1⟩ : ∃ w1, w1 = w.alloc (.cells #[.int .i64 a1, .bool a2] 42) := ⟨_, rfl⟩
  have HE1 := Lib.hid (show Ext w w1 by rw [hw1]; exact ext_alloc (ext_refl _) _)
  have HB := Lib.hid (show w1.heap[w.heap.size]? = some (.cells #[.int .i64 a1, .bool a2] 42 (0, 0)) by rw [hw1]; exact heap_alloc_new _ _)
  go_enter Try.func30, Try.ntmps30
  go_wp2
  rw [← hw1]
  clear hw1
  go_loopw [14, 7] (fun x y wr => ∃ (j : Nat) (T : List Nat) (B : Option Addr) (d : Nat), j ≤ S.length ∧ x = .int .i64 j ∧ y = .slice B T.length d ∧ (∀ e, e ∈ T ↔ ∃ k ∈ S.take j, (k, some (a1, a2), e) ∈ mv) ∧ T.length ≤ j * 1000 ∧ rowF elN w.heap.size T (.slice B T.length d) wr ∧ Ext w wr ∧
    wr.heap[w.heap.size]? = some (.cells #[.int .i64 a1, .bool a2] 42 (0, 0))) (fun x _ _ => S.length - (intOf x).toNat)
  case atStart => exact ⟨0, [], none, 0, Nat.zero_le _, rfl, rfl, fun e => by simp, by simp, rowF_nil _ _, HE1.out, HB.out⟩
  case round =>
    rename World => wo
    obtain ⟨j, T, B, d, hj, rfl, rfl, hT, hTl, hro, hE, hB⟩ := hrel
    have HT := Lib.hid hT
    have RO := Lib.hid hro
    have HE := Lib.hid hE
    have HB0 := Lib.hid hB
    clear hT hro hE hB
    by_cases hlt : j < S.length
    · have hji : (j : Int) < (S.length : Int) := by omega
      have hj0 : (0 : Int) ≤ (j : Int) := by omega
      obtain ⟨s, hs⟩ : ∃ s, S[j]? = some s := ⟨_, List.getElem?_eq_getElem hlt⟩
      obtain ⟨b1, off, hA0, hb, hca⟩ := HA.out (fun e => by rw [e] at hs; simp at hs)
      subst hA0
      have q0 := (ext_cell HE.out _ _ hb).trans (hca j s hs)
      have lb := ext_lt HE.out hb
      have hsm := HS.out s (List.mem_of_getElem? hs)
      have hsi : (s : Int) < (m : Int) := by omega
      have hs0 : (0 : Int) ≤ (s : Int) := by omega
      obtain ⟨gl, cl, l, Al, c2, r0, lp3, r1, lgl, hlr, hlm, hll⟩ := cur_row (cur_ext H.out.cur HE.out) hsm
      have hml := H.out.hl
      have HLR := Lib.hid hlr
      have HLM := Lib.hid hlm
      have HSJ := Lib.hid hs
      clear hlr hlm hs hca
      go_wp2
      clear r0 lp3 r1 lgl q0 lb
      go_loopw [26, 7] (fun x y wr => ∃ (i : Nat) (T' : List Nat) (B : Option Addr) (d : Nat), i ≤ l.length ∧ x = .int .i64 i ∧ y = .slice B T'.length d ∧ T' = T ++ symD (a1, a2) (l.take i) ∧ rowF elN w.heap.size T' (.slice B T'.length d) wr ∧ Ext w wr ∧
        wr.heap[w.heap.size]? = some (.cells #[.int .i64 a1, .bool a2] 42 (0, 0)) ∧ rowE elM wr (.slice Al l.length c2) l) (fun x _ _ => l.length - (intOf x).toNat)
      case atStart => exact ⟨0, T, B, d, Nat.zero_le _, rfl, rfl, by simp [symD], RO.out, HE.out, HB0.out, HLR.out⟩
      case round =>
        rename World => wq
        obtain ⟨i, T', B5, d5, hi, rfl, rfl, hT', hro', hE', hB', hml'⟩ := hrel
        have HT' := Lib.hid hT'
        have RO' := Lib.hid hro'
        have HE' := Lib.hid hE'
        have HBq := Lib.hid hB'
        have ML := Lib.hid hml'
        have hTl' : T'.length ≤ T.length + 1000 := by
          rw [hT', List.length_append]
          have := symD_len (a1, a2) (l.take i)
          have := List.length_take_le i l
          omega
        clear hT' hro' hE' hB' hml'
        by_cases hlt2 : i < l.length
        · have hii : (i : Int) < (l.length : Int) := by omega
          have hi0 : (0 : Int) ≤ (i : Int) := by omega
          obtain ⟨x, hx⟩ : ∃ x, l[i]? = some x := ⟨_, List.getElem?_eq_getElem hlt2⟩
          obtain ⟨gm, hgm, lgm⟩ := rowE_some ML.out (fun e => by rw [e] at hx; simp at hx)
          subst hgm
          have hcells := rowE_cells4 ML.out hx
          obtain ⟨o, dd⟩ := x
          cases o with
          | none =>
            have z0 := hcells 0 _ rfl
            rw [Nat.add_zero] at z0
            have z1 := hcells 1 _ rfl
            have z2 := hcells 2 _ rfl
            have z3 := hcells 3 _ rfl
            have HX := Lib.hid hx
            clear hx hcells
            go_wp2
            go_roundw
            case rel => exact ⟨i + 1, T', B5, d5, by omega, by go_num, rfl, by rw [symD_no HX.out (by simp)]; exact HT'.out, rowF_ext _ _ _ (ext_alloc (ext_refl _) _) RO'.out, ext_alloc HE'.out _, (ext_block (ext_alloc (ext_refl _) _) (block_lt HBq.out)).trans HBq.out, rowE_ext ML.out (ext_alloc (ext_refl _) _)⟩
            case measure => simp [intOf]; omega
          | some y =>
            have z0 := hcells 0 _ rfl
            rw [Nat.add_zero] at z0
            have z1 := hcells 1 _ rfl
            have z2 := hcells 2 _ rfl
            have z3 := hcells 3 _ rfl
            have HX := Lib.hid hx
            have c0 := block_cell HBq.out 0
            have c1 := block_cell HBq.out 1
            have lc := block_lt HBq.out
            simp at c0 c1
            obtain ⟨y1, y2⟩ := y
            clear hx hcells
            by_cases hy : (y1, y2) = (a1, a2)
            · have heq : ∀ w : World, Sem.run Try.prog (Op.equalIn 10000 42 (.agg #[.int .i64 y1, .bool y2]) (.agg #[.int .i64 a1, .bool a2])) w = .ok true w := fun w => by rw [eq42, decide_eq_true hy]
              rw [hy] at HX
              clear hy
              go_wp2_with (at_builtin; refine halt_here ?_)
              refine go_on ?_
              obtain ⟨wp, hwp⟩ : ∃ wp, wp = wq.alloc (.cells #[.int .i64 y1, .bool y2, .bool false, .int .i64 (dd : Int)] 114) := ⟨_, rfl⟩
              have hEb := ext_alloc (ext_refl wq) (.cells #[.int .i64 y1, .bool y2, .bool false, .int .i64 (dd : Int)] 114)
              rw [← hwp] at hEb
              rw [← hwp]
              have HZP := Lib.hid (show wp.heap.size = wq.heap.size + 1 by rw [hwp]; simp)
              have HEB := Lib.hid hEb
              clear hEb hwp z0 z1 z2 z3 heq c0 c1 lc
              have hEa := ext_trans HEB.out (ext_alloc (ext_refl wp) (.cells #[.int .i64 (dd : Int)] 3))
              refine wpList_append rfl (.tmp 39) (.tmp 42) rfl _ _ rfl rfl (fun v' w' => rowF elN w.heap.size (T' ++ [dd]) v' w' ∧ (wp.alloc (.cells #[.int .i64 (dd : Int)] 3)).grownBy w' (Value.slice B5 T'.length d5).ownBlock) (append_onto tpN _ w.heap.size (.slice B5 T'.length d5) _ T' [dd] _ (rowF_ext _ _ _ hEa RO'.out) (srcOf_one (H := 0) ⟨wq.heap.size + 1, rfl, Nat.zero_le _, by rw [← HZP.out]; exact heap_alloc_new wp _⟩) (by simp; omega) (Nat.le_trans (ext_size HE'.out) (ext_size hEa))) ?_
              rintro v6 w6 ⟨hr6, hg6⟩
              obtain ⟨A6, c6, hv6⟩ := rowE_form hr6.1
              obtain ⟨wn, hwn⟩ : ∃ wn, wn = T' ++ [dd] := ⟨_, rfl⟩
              rw [← hwn] at hr6 hv6
              subst hv6
              have HWN := Lib.hid hwn
              have RW6 := Lib.hid hr6
              have hown := rowF_ext _ _ _ hEa RO'.out
              have HB6 := Lib.hid (((upd_grown hg6).block _ (ext_lt hEa (block_lt HBq.out)) (rowE_off hown.1 ((ext_block hEa (block_lt HBq.out)).trans HBq.out) (by decide))).trans ((ext_block hEa (block_lt HBq.out)).trans HBq.out))
              have ML6 := Lib.hid (rowE_upd (rowE_ext ML.out hEa) (upd_grown hg6) (fun b hb e => el_apart (rowE_ext ML.out hEa) hown.1 (by decide) hb e))
              have E6 := Lib.hid (show Ext w w6 from ext_grown (ext_trans HE'.out hEa) hg6 RO'.out.2 (Nat.le_refl _))
              clear hr6 hg6 hEa hwn hown
              go_wp2
              go_roundw
              case rel => exact ⟨i + 1, wn, A6, c6, by omega, by go_num, rfl, by rw [symD_yes HX.out, ← List.append_assoc, ← HT'.out, HWN.out], RW6.out, E6.out, HB6.out, ML6.out⟩
              case measure => simp [intOf]; omega
            · have heq : ∀ w : World, Sem.run Try.prog (Op.equalIn 10000 42 (.agg #[.int .i64 y1, .bool y2]) (.agg #[.int .i64 a1, .bool a2])) w = .ok false w := fun w => by rw [eq42, decide_eq_false hy]
              have HY := Lib.hid (show (some (y1, y2) : Option Sy) ≠ some (a1, a2) from fun e => hy (Option.some.inj e))
              clear hy
              go_wp2
              go_roundw
              case rel => exact ⟨i + 1, T', B5, d5, by omega, by go_num, rfl, by rw [symD_no HX.out HY.out]; exact HT'.out, rowF_ext _ _ _ (ext_alloc (ext_refl _) _) RO'.out, ext_alloc HE'.out _, (ext_block (ext_alloc (ext_refl _) _) (block_lt HBq.out)).trans HBq.out, rowE_ext ML.out (ext_alloc (ext_refl _) _)⟩
              case measure => simp [intOf]; omega
        · obtain rfl : i = l.length := by omega
          have HT2 := HT'
          rw [List.take_length] at HT2
          have hml := H.out.hl
          go_wp2
          go_roundw
          case rel =>
            refine ⟨j + 1, T', B5, d5, by omega, by go_num, rfl, fun e => ?_, by omega, RO'.out, HE'.out, HBq.out⟩
            rw [HT2.out, List.mem_append, HT.out e, symD_mem, HLM.out, List.take_add_one, HSJ.out]
            simp only [Option.toList_some, List.mem_append, List.mem_singleton]
            constructor
            · rintro (⟨k, h1, h2⟩ | h)
              · exact ⟨k, .inl h1, h2⟩
              · exact ⟨s, .inr rfl, h⟩
            · rintro ⟨k, h1 | rfl, h2⟩
              · exact .inl ⟨k, h1, h2⟩
              · exact .inr h2
          case measure => simp [intOf]; omega
    · obtain rfl : j = S.length := by omega
      rw [List.take_length] at HT
      have hTd : ∀ t ∈ T, t < m := fun t ht => by
        obtain ⟨k, _, h2⟩ := (HT.out t).1 ht
        exact H.out.dst _ _ _ h2
      have HTD := Lib.hid hTd
      clear hTd
      go_wp2_with fail
      refine (closed_any W wo p m b en mv _ T (cur_ext H.out.cur HE.out) (rdN_row RO.out.1) HTD.out H.out.dst H.out.hm H.out.hl (by omega)).mono ?_
      rintro e w2 ⟨A, c, L, rfl, hr, hc, hE2⟩
      have HR := Lib.hid (rowF_low hr (ext_size HE.out))
      have HN := Lib.hid (show IsNext mv S (a1, a2) L from ⟨hc.1, fun s => by
        rw [hc.2]
        constructor
        · rintro ⟨d, h1, h2⟩
          obtain ⟨k, h3, h4⟩ := (HT.out d).1 h1
          exact ⟨k, h3, d, h4, h2⟩
        · rintro ⟨k, h3, d, h4, h2⟩
          exact ⟨d, (HT.out d).2 ⟨k, h3, h4⟩, h2⟩⟩)
      have HE2 := Lib.hid (ext_trans HE.out hE2)
      clear hr hc hE2
      go_wp2
      refine bodyPost_ret (results_tmp rfl _ _ _) rfl ?_
      exact ⟨A, c, L, rfl, HR.out, HN.out, HE2.out⟩
end Go.Proofs.Ytiabmdboacpmcaa
/- Takes; a compiled path's machine. -/
namespace Go.Proofs.Ytiabmdboacpmcaa
open Go Go.RowKit Go.Sort
set_option maxHeartbeats 1000000

theorem machT_mach {W w : World} {p : Nat} {t : Tr} (h : MachT W w p t) : Mach W p (gen t 1 0).many 0 ((gen t 1 0).last : Int) (gen t 1 0).moves w := by
  obtain ⟨h1, h2, h3⟩ := h
  have hp := part_ok t 1 0 h2 (by omega)
  have hs := gen_size t 1 0 h2
  refine ⟨h1, by have := hp.le; omega, fun s o d hm => (hp.good.dst s o d hm).2, by omega, by omega⟩
theorem machT_words {W w : World} {p : Nat} {t : Tr} (h : MachT W w p t) (u : List Sy) : Way (gen t 1 0).moves 0 u (gen t 1 0).last ↔ Words t u := (part_ok t 1 0 h.2.1 (by omega)).ways u

def elY : El Sy := ⟨fun a => [.int .i64 a.1, .bool a.2], 2, 42, by decide, fun _ => rfl, fun x u hu => by
  simp only [List.mem_cons, List.not_mem_nil, or_false] at hu; rcases hu with rfl | rfl <;> rfl⟩
noncomputable def tpY : Tp Try.prog 43 elY := ⟨(Try.prog.info? 42).get (by kernel_rfl), .agg #[.int .i64 0, .bool false], 16, Try.underlying43, by kernel_rfl, by kernel_rfl, by kernel_rfl, by kernel_rfl, rfl, by decide⟩
/-- symbols as they lie, anywhere -/
def RdY (w : World) (v : Value) (L : List Sy) : Prop := ∃ A c, v = .slice A L.length c ∧ L.length ≤ c ∧ (L ≠ [] → ∃ b off, A = some ⟨b, off, none⟩ ∧ b < w.heap.size ∧ ∀ (i : Nat) (x : Sy), L[i]? = some x → w.cell? ⟨b, off + i * 2, none⟩ = some (.int .i64 x.1) ∧ w.cell? ⟨b, off + i * 2 + 1, none⟩ = some (.bool x.2))
theorem rdY_row {w : World} {v : Value} {L : List Sy} (h : rowE elY w v L) : RdY w v L := by
  obtain ⟨A, c, rfl⟩ := rowE_form h
  refine ⟨A, c, rfl, (rowE_cap h).2, fun hne => ?_⟩
  obtain ⟨g, rfl, hg⟩ := rowE_some h hne
  refine ⟨g, 0, rfl, hg, fun i x hx => ⟨?_, ?_⟩⟩
  · have := rowE_cell h hx (j := 0) (u := .int .i64 x.1) rfl
    simpa [elY] using this
  · have := rowE_cell h hx (j := 1) (u := .bool x.2) rfl
    simpa [elY] using this
theorem rdY_ext {w w' : World} {v : Value} {L : List Sy} (h : RdY w v L) (hE : Ext w w') : RdY w' v L := by
  obtain ⟨A, c, h1, h2, h3⟩ := h
  refine ⟨A, c, h1, h2, fun hne => ?_⟩
  obtain ⟨b, off, h4, h5, h6⟩ := h3 hne
  exact ⟨b, off, h4, ext_lt hE h5, fun i x hx => ⟨(ext_cell hE _ _ h5).trans (h6 i x hx).1, (ext_cell hE _ _ h5).trans (h6 i x hx).2⟩⟩
theorem rdY_take {w : World} {A : Option Addr} {n c k : Nat} {L : List Sy} (h : RdY w (.slice A n c) L) (hk : k ≤ L.length) (c' : Nat) (hc : k ≤ c') : RdY w (.slice A k c') (L.take k) := by
  obtain ⟨A', c1, h1, h2, h3⟩ := h
  simp only [Value.slice.injEq] at h1
  obtain ⟨rfl, -, -⟩ := h1
  have hl : (L.take k).length = k := by rw [List.length_take]; omega
  refine ⟨A, c', by rw [hl], by rw [hl]; exact hc, fun hne => ?_⟩
  obtain ⟨b, off, h4, h5, h6⟩ := h3 (fun e => by rw [e] at hne; simp at hne)
  refine ⟨b, off, h4, h5, fun i x hx => h6 i x ?_⟩
  rw [List.getElem?_take] at hx
  split at hx
  · exact hx
  · cases hx

def TakesPost (P : Prop) (w : World) (e : Ending) (w' : World) : Prop := ∃ b : Bool, e = .returned (.bool b) ∧ (b = true ↔ P) ∧ Ext w w'
theorem takes_any (W w : World) (p m b n : Nat) (mv : List Mv) (v : Value) (u : List Sy) (h : Mach W p m b n mv w) (hv : RdY w v u) (hl : u.length ≤ 1000000) :
    Calls Try.prog 24 #[.pointer (some ⟨p, 0, none⟩), v] w (TakesPost (Way mv b u n) w) := by
  have H := Lib.hid h
  obtain ⟨A0, c0, rfl, -, hA⟩ := hv
  have HA := Lib.hid hA
  clear h hA
  go_enter Try.func24, Try.ntmps24
  go_wp2_with fail
  refine (begin_any W w p m b n mv H.out).mono ?_
  rintro e w1 ⟨A1, c1, L1, rfl, hr, hs, hE⟩
  have R1 := Lib.hid hr.1
  have S1 := Lib.hid hs
  have HE1 := Lib.hid hE
  clear hr hs hE
  go_wp2
  go_loopw [12, 5] (fun x y wr => ∃ (j : Nat) (L : List Nat) (B : Option Addr) (d : Nat), j ≤ u.length ∧ x = .int .i64 j ∧ y = .slice B L.length d ∧ rowE elN wr (.slice B L.length d) L ∧ IsSet mv b (u.take j) L ∧ Ext w wr) (fun x _ _ => u.length - (intOf x).toNat)
  case atStart => exact ⟨0, L1, A1, c1, Nat.zero_le _, rfl, rfl, R1.out, S1.out, HE1.out⟩
  case round =>
    rename World => wo
    obtain ⟨j, L, B, d, hj, rfl, rfl, hr, hs, hE⟩ := hrel
    have HR := Lib.hid hr
    have HS := Lib.hid hs
    have HE := Lib.hid hE
    have hLm : ∀ s ∈ L, s < m := fun s hsL => way_lt H.out.dst H.out.lt ((hs.2 s).1 hsL)
    have hLl : L.length ≤ m := nodup_le m L (hs.1.imp (fun h => by omega)) hLm
    have HLM := Lib.hid hLm
    have hm := H.out.hm
    clear hr hs hE hLm
    by_cases hlt : j < u.length
    · have hji : (j : Int) < (u.length : Int) := by omega
      have hj0 : (0 : Int) ≤ (j : Int) := by omega
      obtain ⟨a, ha⟩ : ∃ a, u[j]? = some a := ⟨_, List.getElem?_eq_getElem hlt⟩
      obtain ⟨b1, off, hA0, hb, hca⟩ := HA.out (fun e => by rw [e] at ha; simp at ha)
      subst hA0
      have q0 := (ext_cell HE.out _ _ hb).trans (hca j a ha).1
      have q1 := (ext_cell HE.out _ _ hb).trans (hca j a ha).2
      have lb := ext_lt HE.out hb
      have HJ := Lib.hid ha
      clear ha hca
      go_wp2_with fail
      have hEa := ext_alloc (ext_refl wo) (.cells #[.int .i64 a.1, .bool a.2] 42)
      refine (next_any W _ p m b n mv _ L a (mach_ext H.out (ext_trans HE.out hEa)) (rdN_row (rowE_ext HR.out hEa)) HLM.out (by omega)).mono ?_
      rintro e w2 ⟨A2, c2, L2, rfl, hr2, hn2, hE2⟩
      have R2 := Lib.hid hr2.1
      have S2 := Lib.hid (isSet_next HS.out hn2)
      have HE2 := Lib.hid (ext_trans (ext_trans HE.out hEa) hE2)
      clear hr2 hn2 hE2 hEa
      go_wp2
      go_roundw
      case rel => exact ⟨j + 1, L2, A2, c2, by omega, by go_num, rfl, R2.out, by rw [List.take_add_one, HJ.out]; exact S2.out, HE2.out⟩
      case measure => simp [intOf]; omega
    · obtain rfl : j = u.length := by omega
      rw [List.take_length] at HS
      go_wp2_with (go_at_call 32; refine (final_any W wo p m b n mv _ L (mach_ext H.out HE.out) (rdN_row HR.out) (by omega)).mono ?_; rintro e w2 ⟨rfl, rfl⟩)
      refine bodyPost_ret (results_tmp rfl _ _ _) rfl ?_
      exact ⟨decide (n ∈ L), rfl, by rw [decide_eq_true_eq]; exact HS.out.2 n, HE.out⟩
end Go.Proofs.Ytiabmdboacpmcaa
/- awake. -/
namespace Go.Proofs.Ytiabmdboacpmcaa
open Go Go.RowKit Go.Sort
set_option maxHeartbeats 1000000

def trA : Tr := .node 4 0 [.node 0 0 []]
theorem chkA : chk trA = 0 := by simp [chk, trA, deepB, deepL, sizeT, sizeL, formB, formL]
theorem wordsA1 : Words trA [] := by
  simp only [trA, Words]
  exact .nil
theorem wordsA2 : Words trA [(0, false), (0, false)] := by
  simp only [trA, Words]
  exact .cons (u := [(0, false)]) (v := [(0, false)]) (.inl rfl) (.cons (u := [(0, false)]) (v := []) (.inl rfl) .nil)
theorem wordsA3 : ¬ Words trA [(1, false)] := by
  simp only [trA, Words]
  intro h
  obtain ⟨w, hw⟩ : ∃ w : List Sy, w = [(1, false)] := ⟨_, rfl⟩
  rw [← hw] at h
  induction h with
  | nil => cases hw
  | cons h1 h2 ih =>
    rename_i u v
    simp [WordsAlt, Words] at h1
    subst h1
    simp at hw

/-- a row of symbols just built -/
theorem rdY_block {w : World} {g : Nat} {L : List Sy} {cs : Array Value} {t : TypeId} {fr : Nat × Nat} (h : w.heap[g]? = some (.cells cs t fr)) (hc : ∀ (i : Nat) (x : Sy), L[i]? = some x → cs[i * 2]? = some (.int .i64 x.1) ∧ cs[i * 2 + 1]? = some (.bool x.2)) {n : Nat} (hn : n = L.length) : RdY w (.slice (some ⟨g, 0, none⟩) n n) L := by
  subst hn
  refine ⟨_, _, rfl, Nat.le_refl _, fun _ => ⟨g, 0, rfl, block_lt h, fun i x hx => ?_⟩⟩
  obtain ⟨h1, h2⟩ := hc i x hx
  rw [Nat.zero_add]
  exact ⟨by rw [block_cell h, h1], by rw [block_cell h, h2]⟩
theorem rdY_nil (w : World) : RdY w (.slice none 0 0) [] := ⟨none, 0, rfl, Nat.le_refl _, fun h => absurd rfl h⟩

theorem awake_any (w : World) : Calls Try.prog 19 #[] w fun e w' => e = .returned (.bool true) ∧ Ext w w' := by
  go_enter Try.func19, Try.ntmps19
  go_wp2_with fail
  have h0 := heap_alloc_new w (.cells #[.int .i64 0, .int .i64 0, .slice none 0 0] 30)
  have hE0 := ext_alloc (ext_refl w) (.cells #[.int .i64 0, .int .i64 0, .slice none 0 0] 30)
  have hv : PV (w.alloc (.cells #[.int .i64 0, .int .i64 0, .slice none 0 0] 30)) trA (.agg #[.int .i64 4, .int .i64 0, .slice (some ⟨w.heap.size, 0, none⟩) 1 1]) := by
    refine ⟨_, rfl, some ⟨w.heap.size, 0, none⟩, 1, rfl, fun _ => ⟨_, _, rfl, ?_⟩⟩
    rw [PL]
    refine ⟨?_, by rw [PL]; trivial⟩
    rw [PT]
    exact ⟨block_cell h0 0, block_cell h0 1, none, 0, block_cell h0 2, fun h => absurd rfl h⟩
  refine (compile_yes trA _ _ hv chkA).mono ?_
  rintro e w1 ⟨p, rfl, hM, hE1⟩
  have HM := Lib.hid hM
  have HE1 := Lib.hid (ext_trans hE0 hE1)
  clear h0 hE0 hv hM hE1
  go_wp2_with fail
  refine (takes_any _ _ p _ _ _ _ _ [] (machT_mach HM.out) (rdY_nil _) (by simp)).mono ?_
  rintro e w2 ⟨b, rfl, hb, hE2⟩
  have hb1 : b = true := hb.2 ((machT_words HM.out _).2 wordsA1)
  have HE2 := Lib.hid hE2
  subst hb1
  clear hb hE2
  go_wp2_with fail
  have h0 := heap_alloc_new w2 (.cells #[.int .i64 0, .bool false, .int .i64 0, .bool false] 42)
  have hE0 := ext_alloc (ext_refl w2) (.cells #[.int .i64 0, .bool false, .int .i64 0, .bool false] 42)
  have hM := machT_ext HM.out (ext_trans HE2.out hE0)
  have hr := rdY_block (L := [(0, false), (0, false)]) (n := 2) h0 (fun i x hx => by
    rcases i with _ | _ | i
    · simp at hx; subst hx; exact ⟨rfl, rfl⟩
    · simp at hx; subst hx; exact ⟨rfl, rfl⟩
    · simp at hx) rfl
  refine (takes_any _ _ p _ _ _ _ _ _ (machT_mach hM) hr (by simp)).mono ?_
  rintro e w3 ⟨b, rfl, hb, hE3⟩
  have hb1 : b = true := hb.2 ((machT_words hM _).2 wordsA2)
  have HE3 := Lib.hid (ext_trans (ext_trans HE2.out hE0) hE3)
  subst hb1
  clear hb hE3 h0 hE0 hM hr HE2
  go_wp2_with fail
  have h0 := heap_alloc_new w3 (.cells #[.int .i64 1, .bool false] 42)
  have hE0 := ext_alloc (ext_refl w3) (.cells #[.int .i64 1, .bool false] 42)
  have hM := machT_ext HM.out (ext_trans HE3.out hE0)
  have hr := rdY_block (L := [(1, false)]) (n := 1) h0 (fun i x hx => by
    rcases i with _ | i
    · simp at hx; subst hx; exact ⟨rfl, rfl⟩
    · simp at hx) rfl
  refine (takes_any _ _ p _ _ _ _ _ _ (machT_mach hM) hr (by simp)).mono ?_
  rintro e w4 ⟨b, rfl, hb, hE4⟩
  have hb1 : b = false := by
    cases b with
    | false => rfl
    | true => exact absurd ((machT_words hM _).1 (hb.1 rfl)) wordsA3
  have HE4 := Lib.hid (ext_trans HE1.out (ext_trans (ext_trans HE3.out hE0) hE4))
  subst hb1
  clear hb hE4 h0 hE0 hM hr HE3
  go_wp2
  refine bodyPost_ret (results_tmp rfl _ _ _) rfl ?_
  exact ⟨rfl, HE4.out⟩
end Go.Proofs.Ytiabmdboacpmcaa
/- NfaDeep. -/
namespace Go.Proofs.Ytiabmdboacpmcaa
open Go Go.RowKit Go.Sort
set_option maxHeartbeats 1000000

/-- bytes as they lie, anywhere -/
def RdB (w : World) (v : Value) (L : List Nat) : Prop := ∃ A c, v = .slice A L.length c ∧ L.length ≤ c ∧ (∀ x ∈ L, x < 256) ∧ (L ≠ [] → ∃ b off, A = some ⟨b, off, none⟩ ∧ b < w.heap.size ∧ ∀ (i : Nat) (x : Nat), L[i]? = some x → w.cell? ⟨b, off + i, none⟩ = some (.int .u8 (x : Int)))
theorem rdB_ext {w w' : World} {v : Value} {L : List Nat} (h : RdB w v L) (hE : Ext w w') : RdB w' v L := by
  obtain ⟨A, c, h1, h2, h0, h3⟩ := h
  refine ⟨A, c, h1, h2, h0, fun hne => ?_⟩
  obtain ⟨b, off, h4, h5, h6⟩ := h3 hne
  exact ⟨b, off, h4, ext_lt hE h5, fun i x hx => (ext_cell hE _ _ h5).trans (h6 i x hx)⟩

def nest : List Int → Tr
  | [] => .node 0 2 []
  | k :: r => .node k 0 [nest r]
theorem nest_deep : ∀ (L : List Int) (l : Int), deepB (nest L) l = decide ((L.length : Int) < l)
  | [], l => by simp [nest, deepB, deepL]
  | k :: r, l => by
    rw [nest, deepB, deepL, deepL, Bool.and_true, nest_deep r]
    rw [Bool.eq_iff_iff]
    simp
    omega
theorem nest_size : ∀ (L : List Int), sizeT (nest L) = L.length + 1
  | [] => by simp [nest, sizeT, sizeL]
  | k :: r => by rw [nest, sizeT, sizeL, sizeL, nest_size r]; simp; omega
theorem nest_form : ∀ (L : List Int), (∀ k ∈ L, 2 ≤ k ∧ k ≤ 6) → formB (nest L) = true
  | [], _ => by simp [nest, formB]
  | k :: r, h => by
    have hk := h k (List.mem_cons_self ..)
    have hr := nest_form r (fun x hx => h x (List.mem_cons_of_mem _ hx))
    have : k = 2 ∨ k = 3 ∨ k = 4 ∨ k = 5 ∨ k = 6 := by omega
    rcases this with rfl | rfl | rfl | rfl | rfl <;> simp [nest, formB, formL, hr]
theorem nest_words : ∀ (L : List Int), (∀ k ∈ L, 2 ≤ k ∧ k ≤ 6) → Words (nest L) [(2, false)]
  | [], _ => by simp [nest, Words]
  | k :: r, h => by
    have hk := h k (List.mem_cons_self ..)
    have hr := nest_words r (fun x hx => h x (List.mem_cons_of_mem _ hx))
    have ha : WordsAlt [nest r] [(2, false)] := .inl hr
    have hst : StarL (WordsAlt [nest r]) [(2, false)] := by simpa using StarL.cons (v := []) ha .nil
    have : k = 2 ∨ k = 3 ∨ k = 4 ∨ k = 5 ∨ k = 6 := by omega
    rcases this with rfl | rfl | rfl | rfl | rfl
    · simp only [nest, Words]; exact ⟨_, [], rfl, hr, rfl⟩
    · simp only [nest, Words]; exact ha
    · simp only [nest, Words]; exact hst
    · simp only [nest, Words]; exact ⟨_, [], rfl, ha, .nil⟩
    · simp only [nest, Words]; exact .inr ha
theorem nest_chk (L : List Int) (h : ∀ k ∈ L, 2 ≤ k ∧ k ≤ 6) : chk (nest L) = if L.length < 40 then 0 else 15 := by
  rw [chk, nest_deep, nest_size, nest_form L h]
  by_cases hl : L.length < 40
  · rw [if_pos hl, if_pos (by simp; omega), if_neg (by omega), if_pos rfl]
  · rw [if_neg hl, if_neg (by simp; omega)]

/-- a nest as it lies, but for its outermost path -/
def NestC (w : World) (bx : Nat) : List Int → Value → Value → Value → Prop
  | [], a, b, s => a = .int .i64 0 ∧ b = .int .i64 2 ∧ s = .slice none 0 0
  | k :: r, a, b, s => a = .int .i64 k ∧ b = .int .i64 0 ∧ ∃ g a' b' s', s = .slice (some ⟨g, 0, none⟩) 1 1 ∧ bx < g ∧ w.heap[g]? = some (.cells #[a', b', s'] 30 (0, 0)) ∧ NestC w bx r a' b' s'
theorem nestC_upd {w w' : World} {bx : Nat} (hu : Upd (fun b => b = bx) w w') : ∀ (L : List Int) (a b s : Value), NestC w bx L a b s → NestC w' bx L a b s
  | [], _, _, _, h => h
  | k :: r, a, b, s, h => by
    obtain ⟨h1, h2, g, a', b', s', h3, h4, h5, h6⟩ := h
    exact ⟨h1, h2, g, a', b', s', h3, h4, (hu.block g (block_lt h5) (by intro e; omega)).trans h5, nestC_upd hu r _ _ _ h6⟩
theorem nestC_form {w : World} {bx : Nat} : ∀ {L : List Int} {a b s : Value}, NestC w bx L a b s → ∃ k n A m c, a = .int .i64 k ∧ b = .int .i64 n ∧ s = .slice A m c
  | [], _, _, _, ⟨h1, h2, h3⟩ => ⟨_, _, _, _, _, h1, h2, h3⟩
  | _ :: _, _, _, _, ⟨h1, h2, _, _, _, _, h3, _⟩ => ⟨_, _, _, _, _, h1, h2, h3⟩
theorem nestC_place {w : World} {bx : Nat} : ∀ {L : List Int} {a b s : Value}, NestC w bx L a b s → ∀ g : Nat, w.heap[g]? = some (.cells #[a, b, s] 30 (0, 0)) → PT w (nest L) g 0
  | [], _, _, _, ⟨rfl, rfl, rfl⟩, g, hg => by
    rw [nest, PT]
    exact ⟨block_cell hg 0, block_cell hg 1, none, 0, block_cell hg 2, fun h => absurd rfl h⟩
  | k :: r, _, _, _, ⟨rfl, rfl, g', a', b', s', rfl, _, h5, h6⟩, g, hg => by
    rw [nest, PT]
    refine ⟨block_cell hg 0, block_cell hg 1, _, _, block_cell hg 2, fun _ => ⟨g', 0, rfl, ?_⟩⟩
    rw [PL]
    exact ⟨nestC_place h6 g' h5, by rw [PL]; trivial⟩
theorem nestC_val {w : World} {bx : Nat} : ∀ {L : List Int} {a b s : Value}, NestC w bx L a b s → PV w (nest L) (.agg #[a, b, s])
  | [], _, _, _, ⟨rfl, rfl, rfl⟩ => ⟨_, rfl, none, 0, rfl, fun h => absurd rfl h⟩
  | k :: r, _, _, _, ⟨rfl, rfl, g', a', b', s', rfl, _, h5, h6⟩ => ⟨_, rfl, _, 1, rfl, fun _ => ⟨g', 0, rfl, by rw [PL]; exact ⟨nestC_place h6 g' h5, by rw [PL]; trivial⟩⟩⟩

theorem nest_step {w wo w' : World} {bx : Nat} {L : List Int} {a b s : Value} (k : Int) (hw : w' = (((wo.setCell ⟨bx, 0, none⟩ (.int .i64 k)).setCell ⟨bx, 1, none⟩ (.int .i64 0)).setCell ⟨bx, 2, none⟩ (.slice (some ⟨wo.heap.size, 0, none⟩) 1 1)).alloc (.cells #[a, b, s] 30))
    (hb : wo.heap[bx]? = some (.cells #[a, b, s] 30 (0, 0))) (hN : NestC wo bx L a b s) (hE : Ext w wo) (hbx : w.heap.size ≤ bx) :
    w'.heap[bx]? = some (.cells #[.int .i64 k, .int .i64 0, .slice (some ⟨wo.heap.size, 0, none⟩) 1 1] 30 (0, 0)) ∧ NestC w' bx (k :: L) (.int .i64 k) (.int .i64 0) (.slice (some ⟨wo.heap.size, 0, none⟩) 1 1) ∧ Ext w w' := by
  subst hw
  obtain ⟨w3, hw3⟩ : ∃ w3, w3 = ((wo.setCell ⟨bx, 0, none⟩ (.int .i64 k)).setCell ⟨bx, 1, none⟩ (.int .i64 0)).setCell ⟨bx, 2, none⟩ (.slice (some ⟨wo.heap.size, 0, none⟩) 1 1) := ⟨_, rfl⟩
  rw [← hw3]
  have hs : w3.heap.size = wo.heap.size := by rw [hw3]; simp [World.setCell]
  have hu : Upd (fun x => x = bx) wo w3 := by
    rw [hw3]
    exact upd_trans (upd_trans (upd_setCell (a := ⟨bx, 0, none⟩) _) (upd_setCell (a := ⟨bx, 1, none⟩) _) (fun _ _ h => h)) (upd_setCell (a := ⟨bx, 2, none⟩) _) (fun _ _ h => h)
  have h3 : w3.heap[bx]? = some (.cells #[.int .i64 k, .int .i64 0, .slice (some ⟨wo.heap.size, 0, none⟩) 1 1] 30 (0, 0)) := by
    rw [hw3]
    rw [heap_setCell_at (heap_setCell_at (heap_setCell_at hb))]
    rfl
  have hEa : Ext w3 (w3.alloc (.cells #[a, b, s] 30)) := ext_alloc (ext_refl _) _
  have hua : Upd (fun x => x = bx) wo (w3.alloc (.cells #[a, b, s] 30)) := upd_trans hu (upd_of_ext (fp := fun _ => False) hEa) (fun _ _ h => h.elim)
  have h4 : (w3.alloc (.cells #[a, b, s] 30)).heap[bx]? = some (.cells #[.int .i64 k, .int .i64 0, .slice (some ⟨wo.heap.size, 0, none⟩) 1 1] 30 (0, 0)) := (ext_block hEa (block_lt h3)).trans h3
  refine ⟨h4, ⟨rfl, rfl, wo.heap.size, a, b, s, rfl, block_lt hb, ?_, nestC_upd hua _ _ _ _ hN⟩, ?_⟩
  · have := heap_alloc_new w3 (.cells #[a, b, s] 30)
    rw [hs] at this
    exact this
  · refine ext_trans ?_ hEa
    rw [hw3]
    exact ext_set (ext_set (ext_set hE hbx _) hbx _) hbx _

theorem deep_law (n : Nat) (v : Value) (B : List Nat) (w : World) (hn : n < 256) (hv : RdB w v B) (_hB : B.length ≤ maxLen) : Calls Try.prog 4 #[.int .u8 n, v] w fun e w' => e = .returned (.bool true) ∧ Ext w w' := by
  obtain ⟨A0, c0, rfl, hc0, hb0, hA⟩ := hv
  have HA := Lib.hid hA
  have HB0 := Lib.hid hb0
  clear hA hb0
  have hsum : (n % 12 : Nat) < 12 := Nat.mod_lt _ (by decide)
  go_enter Try.func4, Try.ntmps4
  go_wp2_with (go_at_call 19; refine (awake_any _).mono ?_; rintro e w1 ⟨rfl, hE1⟩; have HE1 := Lib.hid hE1; clear hE1)
  · rename_i wa HEa0 _
    refine bodyPost_ret (results_tmp rfl _ _ _) rfl ?_
    exact ⟨rfl, ext_trans HEa0.out HE1.out⟩
  have hbx := heap_alloc_new w1 (.cells #[.int .i64 0, .int .i64 2, .slice none 0 0] 30)
  have HEa := Lib.hid (ext_trans HE1.out (ext_alloc (ext_refl w1) (.cells #[.int .i64 0, .int .i64 2, .slice none 0 0] 30)))
  have hwb := ext_size HE1.out
  obtain ⟨bx, hbxe⟩ : ∃ bx, bx = w1.heap.size := ⟨_, rfl⟩
  rw [← hbxe] at hbx hwb ⊢
  have HBX := Lib.hid hbx
  clear hbx hbxe
  go_loopw [7] (fun x wr => ∃ (L : List Int) (a b s : Value), x = .int .i64 ((L.length + 1 : Nat) : Int) ∧ L.length + 1 ≤ 35 + n % 12 ∧ (∀ k ∈ L, 2 ≤ k ∧ k ≤ 6) ∧ wr.heap[bx]? = some (.cells #[a, b, s] 30 (0, 0)) ∧ NestC wr bx L a b s ∧ Ext w wr) (fun x _ => (35 + n % 12) - (intOf x).toNat)
  case atStart => exact ⟨[], _, _, _, rfl, by simp; omega, by simp, HBX.out, ⟨rfl, rfl, rfl⟩, HEa.out⟩
  case round =>
    rename World => wo
    obtain ⟨L, a, b, s, rfl, hL, hk, hb, hN, hE⟩ := hrel
    obtain ⟨k0, n0, A1, m1, c1, rfl, rfl, rfl⟩ := nestC_form hN
    have HK := Lib.hid hk
    have HB := Lib.hid hb
    have HN := Lib.hid hN
    have HE := Lib.hid hE
    obtain ⟨l, hl⟩ : ∃ l, l = L.length := ⟨_, rfl⟩
    rw [← hl] at hL ⊢
    have HL := Lib.hid hl
    have lb := block_lt hb
    have g0 : wo.cell? ⟨bx, 0, none⟩ = some (.int .i64 k0) := block_cell hb 0
    have g1 : wo.cell? ⟨bx, 1, none⟩ = some (.int .i64 n0) := block_cell hb 1
    have g2 : wo.cell? ⟨bx, 2, none⟩ = some (.slice A1 m1 c1) := block_cell hb 2
    have hfz := block_frozen hb 0
    have hfz1 := block_frozen hb 1
    have hfz2 := block_frozen hb 2
    clear hk hb hN hE hl
    by_cases hlt : l + 1 < 35 + n % 12
    · have hlt' : ((l : Int) + 1) < 35 + (n : Int) % 12 := by omega
      by_cases hin : l + 1 < B.length
      · obtain ⟨y, hy⟩ : ∃ y, B[l + 1]? = some y := ⟨_, List.getElem?_eq_getElem hin⟩
        obtain ⟨b1, off, rfl, hb1, hc1⟩ := HA.out (fun e => by rw [e] at hy; simp at hy)
        have q0 := (ext_cell HE.out _ _ hb1).trans (hc1 _ y hy)
        have l1 := ext_lt HE.out hb1
        have hy6 := HB0.out y (List.mem_of_getElem? hy)
        have hy5 : y % 5 < 5 := Nat.mod_lt _ (by decide)
        clear hc1 hy
        go_wp2
        go_roundw
        case rel =>
          obtain ⟨r1, r2, r3⟩ := nest_step (2 + (y : Int) % 5) rfl HB.out HN.out HE.out hwb
          exact ⟨(2 + (y : Int) % 5) :: L, _, _, _, by rw [List.length_cons, ← HL.out]; go_num, by rw [List.length_cons, ← HL.out]; omega, fun k hk => by
            rcases List.mem_cons.1 hk with rfl | hk
            · omega
            · exact HK.out k hk, r1, r2, r3⟩
        case measure => simp [intOf]; omega
      · go_wp2
        go_roundw
        case rel =>
          obtain ⟨r1, r2, r3⟩ := nest_step 2 rfl HB.out HN.out HE.out hwb
          exact ⟨2 :: L, _, _, _, by rw [List.length_cons, ← HL.out]; go_num, by rw [List.length_cons, ← HL.out]; omega, fun k hk => by
            rcases List.mem_cons.1 hk with rfl | hk
            · omega
            · exact HK.out k hk, r1, r2, r3⟩
        case measure => simp [intOf]; omega
    · have hv := nestC_val HN.out
      have hc := nest_chk L HK.out
      rw [← HL.out] at hc
      by_cases hlo : l < 40
      · rw [if_pos hlo] at hc
        have CY := Lib.hid (compile_yes _ _ wo hv hc)
        have hdd : (35 + (n : Int) % 12) ≤ 40 := by omega
        clear hv hc
        go_wp2_with fail
        refine CY.out.mono ?_
        rintro e w2 ⟨p, rfl, hM, hE2⟩
        have HM := Lib.hid hM
        have HE2 := Lib.hid (ext_trans HE.out hE2)
        clear hM hE2 g0 g1 g2 hfz hfz1 hfz2 lb CY
        go_wp2_with fail
        have h0 := heap_alloc_new w2 (.cells #[.int .i64 2, .bool false] 42)
        have hE0 := ext_alloc (ext_refl w2) (.cells #[.int .i64 2, .bool false] 42)
        have hM := machT_ext HM.out hE0
        have hr := rdY_block (L := [(2, false)]) (n := 1) h0 (fun i x hx => by
          rcases i with _ | i
          · simp at hx; subst hx; exact ⟨rfl, rfl⟩
          · simp at hx) rfl
        refine (takes_any _ _ p _ _ _ _ _ _ (machT_mach hM) hr (by simp)).mono ?_
        rintro e w4 ⟨b, rfl, hb, hE4⟩
        have hb1 : b = true := hb.2 ((machT_words hM _).2 (nest_words L HK.out))
        have HE4 := Lib.hid (ext_trans HE2.out (ext_trans hE0 hE4))
        subst hb1
        clear hb hE4 h0 hE0 hM hr
        go_wp2
        refine bodyPost_ret (results_tmp rfl _ _ _) rfl ?_
        exact ⟨rfl, HE4.out⟩
      · rw [if_neg hlo] at hc
        have CN := Lib.hid (compile_no _ _ wo (by rw [nest_size, ← HL.out]; omega) hv (by rw [hc]; decide))
        unfold CompNo at CN
        rw [hc] at CN
        have hdd : 40 < (35 + (n : Int) % 12) := by omega
        clear hv hc
        go_wp2_with (go_at_call 22; refine CN.out.mono ?_; rintro e w2 ⟨rfl, hE2⟩; have HE2 := Lib.hid hE2; clear hE2)
        refine bodyPost_ret (results_tmp rfl _ _ _) rfl ?_
        exact ⟨rfl, ext_trans HE.out HE2.out⟩
end Go.Proofs.Ytiabmdboacpmcaa
/- The trees of a row of nodes, and how they lie while they are made. -/
namespace Go.Proofs.Ytiabmdboacpmcaa
open Go Go.RowKit Go.Sort
set_option maxHeartbeats 800000

/-- a node: kind, number, parts -/
abbrev Nd := Int × Int × List Nat
/-- which parts a node takes, by how far behind the next node they stand -/
def picks (R : List Tr) : Nat → Nat → List Nat → List Nat
  | _, _, [] => []
  | _, 0, _ => []
  | sz, l + 1, d :: ds => match R[d % 8]? with
    | none => []
    | some t => if 300 < sz + sizeT t then [] else (d % 8) :: picks R (sz + sizeT t) l ds
def treeOf (R : List Tr) (x : Nd) : Tr := .node x.1 x.2.1 ((picks R 1 3 x.2.2).filterMap (R[·]?))
/-- the trees of each node -/
def trs : List Nd → List Tr
  | [] => []
  | x :: r => treeOf (trs r) x :: trs r
theorem trs_length : ∀ L : List Nd, (trs L).length = L.length
  | [] => rfl
  | x :: r => by rw [trs, List.length_cons, List.length_cons, trs_length r]
theorem trs_drop : ∀ (L : List Nd) (i : Nat), (trs L).drop i = trs (L.drop i)
  | [], i => by simp [trs]
  | x :: r, 0 => rfl
  | x :: r, i + 1 => by rw [trs, List.drop_succ_cons, List.drop_succ_cons, trs_drop r i]
theorem trs_at {L : List Nd} {i : Nat} {x : Nd} (h : L[i]? = some x) : (trs L)[i]? = some (treeOf ((trs L).drop (i + 1)) x) := by
  have hi : i < L.length := (List.getElem?_eq_some_iff.1 h).1
  have h1 := trs_drop L i
  have h2 : L.drop i = x :: L.drop (i + 1) := by
    rw [List.drop_eq_getElem_cons hi]
    rw [List.getElem?_eq_getElem hi] at h
    rw [Option.some.inj h]
  rw [h2, trs, ← trs_drop] at h1
  have h3 : ((trs L).drop i)[0]? = (trs L)[i]? := by rw [List.getElem?_drop]; rfl
  rw [← h3, h1]
  rfl
theorem sizeL_snoc (ts : List Tr) (t : Tr) : sizeL (ts ++ [t]) = sizeL ts + sizeT t := by
  induction ts with
  | nil => simp [sizeL]
  | cons x r ih => rw [List.cons_append, sizeL, sizeL, ih]; omega
theorem picks_fit (R : List Tr) : ∀ (ds : List Nat) (sz l : Nat), sz ≤ 300 → sz + sizeL ((picks R sz l ds).filterMap (R[·]?)) ≤ 300
  | [], sz, l, h => by simp [picks, sizeL]; exact h
  | d :: ds, sz, 0, h => by simp [picks, sizeL]; exact h
  | d :: ds, sz, l + 1, h => by
    rw [picks]
    cases hr : R[d % 8]? with
    | none => simp [sizeL]; exact h
    | some t =>
      simp only
      split
      · simp [sizeL]; exact h
      · have := picks_fit R ds (sz + sizeT t) l (by omega)
        rw [List.filterMap_cons_some hr, sizeL]
        rw [Nat.add_assoc] at this
        exact this
theorem treeOf_size (R : List Tr) (x : Nd) : sizeT (treeOf R x) ≤ 300 := by
  rw [treeOf, sizeT]
  exact picks_fit R x.2.2 1 3 (by decide)
theorem trs_size : ∀ (L : List Nd) (t : Tr), t ∈ trs L → sizeT t ≤ 300
  | [], t, h => by cases h
  | x :: r, t, h => by
    rw [trs] at h
    rcases List.mem_cons.1 h with rfl | h
    · exact treeOf_size _ _
    · exact trs_size r t h

/-- what stands: the picks so far -/
structure Picked (R : List Tr) (ds : List Nat) (j : Nat) (os : List Nat) (ts : List Tr) : Prop where
  len : os.length = j
  tlen : ts.length = j
  le3 : j ≤ 3
  rest : picks R 1 3 ds = os ++ picks R (1 + sizeL ts) (3 - j) (ds.drop j)
  trees : os.filterMap (R[·]?) = ts
  fit : 1 + sizeL ts ≤ 300
theorem picked_nil (R : List Tr) (ds : List Nat) : Picked R ds 0 [] [] := ⟨rfl, rfl, by decide, by simp [sizeL], rfl, by simp [sizeL]⟩
theorem picked_next {R : List Tr} {ds : List Nat} {j d : Nat} {os : List Nat} {ts : List Tr} {t : Tr} (h : Picked R ds j os ts) (hd : ds[j]? = some d) (ht : R[d % 8]? = some t) (h3 : j ≠ 3) (hf : 1 + sizeL ts + sizeT t ≤ 300) : Picked R ds (j + 1) (os ++ [d % 8]) (ts ++ [t]) := by
  have hi : j < ds.length := (List.getElem?_eq_some_iff.1 hd).1
  have hdr : ds.drop j = d :: ds.drop (j + 1) := by
    rw [List.drop_eq_getElem_cons hi]
    rw [List.getElem?_eq_getElem hi] at hd
    rw [Option.some.inj hd]
  refine ⟨by rw [List.length_append, h.len]; rfl, by rw [List.length_append, h.tlen]; rfl, by have := h.le3; omega, ?_, by rw [List.filterMap_append, h.trees]; simp [ht], by rw [sizeL_snoc]; omega⟩
  rw [h.rest, hdr]
  obtain ⟨l, hl⟩ : ∃ l, 3 - j = l + 1 := ⟨2 - j, by have := h.le3; omega⟩
  rw [hl, picks, ht]
  simp only
  rw [if_neg (by omega), sizeL_snoc, show 3 - (j + 1) = l by omega, List.append_assoc, Nat.add_assoc]
  rfl
theorem picked_end {R : List Tr} {ds : List Nat} {j : Nat} {os : List Nat} {ts : List Tr} (h : Picked R ds j os ts) (he : j = ds.length ∨ j = 3 ∨ ∃ d, ds[j]? = some d ∧ (R[d % 8]? = none ∨ ∃ t, R[d % 8]? = some t ∧ 300 < 1 + sizeL ts + sizeT t)) : picks R 1 3 ds = os := by
  rw [h.rest]
  have : picks R (1 + sizeL ts) (3 - j) (ds.drop j) = [] := by
    rcases he with rfl | rfl | ⟨d, hd, he⟩
    · rw [List.drop_length]; cases 3 - ds.length <;> rfl
    · cases ds.drop 3 <;> rfl
    · have hi : j < ds.length := (List.getElem?_eq_some_iff.1 hd).1
      have hdr : ds.drop j = d :: ds.drop (j + 1) := by
        rw [List.drop_eq_getElem_cons hi]
        rw [List.getElem?_eq_getElem hi] at hd
        rw [Option.some.inj hd]
      rw [hdr]
      cases 3 - j with
      | zero => rfl
      | succ l =>
        rw [picks]
        rcases he with h | ⟨t, h, hf⟩
        · rw [h]
        · rw [h]; simp only; rw [if_pos hf]
  rw [this, List.append_nil]

mutual
/-- a path as a struct of three, its parts in rows between lo and H -/
def TX (w : World) (lo H : Nat) : Tr → Value → Value → Value → Prop
  | .node k n ps, a, b, s => a = .int .i64 k ∧ b = .int .i64 n ∧ ∃ A c, s = .slice A ps.length c ∧ (ps ≠ [] → ∃ g, A = some ⟨g, 0, none⟩ ∧ lo ≤ g ∧ g < H ∧ LX w lo H ps g 0)
def LX (w : World) (lo H : Nat) : List Tr → Nat → Nat → Prop
  | [], _, _ => True
  | p :: r, g, o => (∃ a b s, w.cell? ⟨g, o, none⟩ = some a ∧ w.cell? ⟨g, o + 1, none⟩ = some b ∧ w.cell? ⟨g, o + 2, none⟩ = some s ∧ TX w lo H p a b s) ∧ LX w lo H r g (o + 3)
end
mutual
/-- the document's path at a place of its list, its parts in rows between lo and H -/
def TR (w : World) (rb n lo H : Nat) : Tr → Nat → Prop
  | .node k m ps, x => x < n ∧ w.cell? ⟨rb, x * 3, none⟩ = some (.int .i64 k) ∧ w.cell? ⟨rb, x * 3 + 1, none⟩ = some (.int .i64 m) ∧ ∃ A c, w.cell? ⟨rb, x * 3 + 2, none⟩ = some (.slice A ps.length c) ∧ ps.length ≤ c ∧ (ps ≠ [] → ∃ g, A = some ⟨g, 0, none⟩ ∧ lo ≤ g ∧ g < H ∧ LR w rb n lo H ps x g 0)
def LR (w : World) (rb n lo H : Nat) : List Tr → Nat → Nat → Nat → Prop
  | [], _, _, _ => True
  | p :: r, x, g, o => (∃ k : Nat, x < k ∧ w.cell? ⟨g, o, none⟩ = some (.int .i64 (k : Int)) ∧ TR w rb n lo H p k) ∧ LR w rb n lo H r x g (o + 1)
end
/-- the rows between lo and H lie as they lay -/
def SameRows (lo H : Nat) (w w' : World) : Prop := ∀ g o, lo ≤ g → g < H → w'.cell? ⟨g, o, none⟩ = w.cell? ⟨g, o, none⟩
mutual
theorem TX_same {w w' : World} {lo H H' : Nat} (hs : SameRows lo H w w') (hH : H ≤ H') : ∀ (t : Tr) (a b s : Value), TX w lo H t a b s → TX w' lo H' t a b s
  | .node k n ps, a, b, s, h => by
    rw [TX] at h ⊢
    obtain ⟨h1, h2, A, c, h3, h4⟩ := h
    refine ⟨h1, h2, A, c, h3, fun hne => ?_⟩
    obtain ⟨g, h5, h6, h7, h8⟩ := h4 hne
    exact ⟨g, h5, h6, by omega, LX_same hs hH ps g 0 h6 h7 h8⟩
theorem LX_same {w w' : World} {lo H H' : Nat} (hs : SameRows lo H w w') (hH : H ≤ H') : ∀ (ps : List Tr) (g o : Nat), lo ≤ g → g < H → LX w lo H ps g o → LX w' lo H' ps g o
  | [], _, _, _, _, _ => by rw [LX]; trivial
  | p :: r, g, o, h1, h2, h => by
    rw [LX] at h ⊢
    obtain ⟨⟨a, b, s, k1, k2, k3, k4⟩, k5⟩ := h
    exact ⟨⟨a, b, s, (hs g _ h1 h2).trans k1, (hs g _ h1 h2).trans k2, (hs g _ h1 h2).trans k3, TX_same hs hH p a b s k4⟩, LX_same hs hH r g (o + 3) h1 h2 k5⟩
end
mutual
theorem TR_same {w w' : World} {rb n lo H H' i : Nat} (hs : SameRows lo H w w') (hr : ∀ o, i * 3 ≤ o → w'.cell? ⟨rb, o, none⟩ = w.cell? ⟨rb, o, none⟩) (hH : H ≤ H') : ∀ (t : Tr) (x : Nat), i ≤ x → TR w rb n lo H t x → TR w' rb n lo H' t x
  | .node k m ps, x, hx, h => by
    rw [TR] at h ⊢
    obtain ⟨h0, h1, h2, A, c, h3, hc, h4⟩ := h
    refine ⟨h0, (hr _ (by omega)).trans h1, (hr _ (by omega)).trans h2, A, c, (hr _ (by omega)).trans h3, hc, fun hne => ?_⟩
    obtain ⟨g, h5, h6, h7, h8⟩ := h4 hne
    exact ⟨g, h5, h6, by omega, LR_same hs hr hH ps x g 0 hx h6 h7 h8⟩
theorem LR_same {w w' : World} {rb n lo H H' i : Nat} (hs : SameRows lo H w w') (hr : ∀ o, i * 3 ≤ o → w'.cell? ⟨rb, o, none⟩ = w.cell? ⟨rb, o, none⟩) (hH : H ≤ H') : ∀ (ps : List Tr) (x g o : Nat), i ≤ x → lo ≤ g → g < H → LR w rb n lo H ps x g o → LR w' rb n lo H' ps x g o
  | [], _, _, _, _, _, _, _ => by rw [LR]; trivial
  | p :: r, x, g, o, hx, h1, h2, h => by
    rw [LR] at h ⊢
    obtain ⟨⟨k, k1, k2, k3⟩, k5⟩ := h
    exact ⟨⟨k, k1, (hs g _ h1 h2).trans k2, TR_same hs hr hH p k (by omega) k3⟩, LR_same hs hr hH r x g (o + 1) hx h1 h2 k5⟩
end
theorem LX_of {w : World} {lo H : Nat} : ∀ (ps : List Tr) (g o : Nat), (∀ (m : Nat) (t : Tr), ps[m]? = some t → ∃ a b s, w.cell? ⟨g, o + m * 3, none⟩ = some a ∧ w.cell? ⟨g, o + m * 3 + 1, none⟩ = some b ∧ w.cell? ⟨g, o + m * 3 + 2, none⟩ = some s ∧ TX w lo H t a b s) → LX w lo H ps g o
  | [], _, _, _ => by rw [LX]; trivial
  | p :: r, g, o, h => by
    rw [LX]
    refine ⟨by simpa using h 0 p rfl, LX_of r g (o + 3) (fun m t ht => ?_)⟩
    have := h (m + 1) t (by simpa using ht)
    rwa [show o + (m + 1) * 3 = o + 3 + m * 3 by omega] at this
theorem LR_of {w : World} {rb n lo H : Nat} : ∀ (ps : List Tr) (x g o : Nat), (∀ (m : Nat) (t : Tr), ps[m]? = some t → ∃ k : Nat, x < k ∧ w.cell? ⟨g, o + m, none⟩ = some (.int .i64 (k : Int)) ∧ TR w rb n lo H t k) → LR w rb n lo H ps x g o
  | [], _, _, _, _ => by rw [LR]; trivial
  | p :: r, x, g, o, h => by
    rw [LR]
    refine ⟨by simpa using h 0 p rfl, LR_of r x g (o + 1) (fun m t ht => ?_)⟩
    have := h (m + 1) t (by simpa using ht)
    rwa [show o + (m + 1) = o + 1 + m by omega] at this
theorem LR_at {w : World} {rb n lo H : Nat} : ∀ {ps : List Tr} {x g o m : Nat} {t : Tr}, LR w rb n lo H ps x g o → ps[m]? = some t → ∃ k : Nat, x < k ∧ w.cell? ⟨g, o + m, none⟩ = some (.int .i64 (k : Int)) ∧ TR w rb n lo H t k
  | p :: r, x, g, o, 0, t, h, ht => by
    rw [LR] at h
    simp only [List.getElem?_cons_zero, Option.some.injEq] at ht
    subst ht
    simpa using h.1
  | p :: r, x, g, o, m + 1, t, h, ht => by
    rw [LR] at h
    have := LR_at h.2 (by simpa using ht)
    rwa [show o + (m + 1) = o + 1 + m by omega]
mutual
theorem TX_PT {w : World} {lo H : Nat} : ∀ (t : Tr) (a b s : Value) (g o : Nat), TX w lo H t a b s → w.cell? ⟨g, o, none⟩ = some a → w.cell? ⟨g, o + 1, none⟩ = some b → w.cell? ⟨g, o + 2, none⟩ = some s → PT w t g o
  | .node k n ps, a, b, s, g, o, h, ha, hb, hs => by
    rw [TX] at h
    rw [PT]
    obtain ⟨rfl, rfl, A, c, rfl, h4⟩ := h
    refine ⟨ha, hb, A, c, hs, fun hne => ?_⟩
    obtain ⟨g', h5, _, _, h8⟩ := h4 hne
    exact ⟨g', 0, h5, LX_PL ps g' 0 h8⟩
theorem LX_PL {w : World} {lo H : Nat} : ∀ (ps : List Tr) (g o : Nat), LX w lo H ps g o → PL w ps g o
  | [], _, _, _ => by rw [PL]; trivial
  | p :: r, g, o, h => by
    rw [LX] at h
    rw [PL]
    obtain ⟨⟨a, b, s, k1, k2, k3, k4⟩, k5⟩ := h
    exact ⟨TX_PT p a b s g o k4 k1 k2 k3, LX_PL r g (o + 3) k5⟩
end
theorem TX_PV {w : World} {lo H : Nat} {t : Tr} {a b s : Value} (h : TX w lo H t a b s) : PV w t (.agg #[a, b, s]) := by
  cases t with
  | node k n ps =>
    rw [TX] at h
    obtain ⟨rfl, rfl, A, c, rfl, h4⟩ := h
    refine ⟨_, rfl, A, c, rfl, fun hne => ?_⟩
    obtain ⟨g', h5, _, _, h8⟩ := h4 hne
    exact ⟨g', 0, h5, LX_PL ps g' 0 h8⟩

/-- what is made so far: from i on -/
def Done (w : World) (rb pb sb n lo H : Nat) (T : List Tr) (i : Nat) : Prop := ∀ k t, i ≤ k → T[k]? = some t → TR w rb n lo H t k ∧ (∃ a b s, w.cell? ⟨pb, k * 3, none⟩ = some a ∧ w.cell? ⟨pb, k * 3 + 1, none⟩ = some b ∧ w.cell? ⟨pb, k * 3 + 2, none⟩ = some s ∧ TX w lo H t a b s) ∧ w.cell? ⟨sb, k, none⟩ = some (.int .i64 (sizeT t : Int))
theorem done_same {w w' : World} {rb pb sb n lo H H' i : Nat} {T : List Tr} (h : Done w rb pb sb n lo H T i) (hs : SameRows lo H w w') (hr : ∀ o, i * 3 ≤ o → w'.cell? ⟨rb, o, none⟩ = w.cell? ⟨rb, o, none⟩) (hp : ∀ o, i * 3 ≤ o → w'.cell? ⟨pb, o, none⟩ = w.cell? ⟨pb, o, none⟩) (hz : ∀ o, i ≤ o → w'.cell? ⟨sb, o, none⟩ = w.cell? ⟨sb, o, none⟩) (hH : H ≤ H') : Done w' rb pb sb n lo H' T i := by
  intro k t hk ht
  obtain ⟨h1, ⟨a, b, s, k1, k2, k3, k4⟩, h3⟩ := h k t hk ht
  exact ⟨TR_same hs hr hH t k hk h1, ⟨a, b, s, (hp _ (by omega)).trans k1, (hp _ (by omega)).trans k2, (hp _ (by omega)).trans k3, TX_same hs hH t a b s k4⟩, (hz _ hk).trans h3⟩
/-- of the three rows -/
structure Rows3 (w : World) (rb pb sb n lo : Nat) : Prop where
  r : ∃ cs, w.heap[rb]? = some (.cells cs 102 (0, 0)) ∧ cs.size = n * 3
  p : ∃ cs, w.heap[pb]? = some (.cells cs 30 (0, 0)) ∧ cs.size = n * 3
  s : ∃ cs, w.heap[sb]? = some (.cells cs 3 (0, 0)) ∧ cs.size = n
  rl : rb < lo
  pl : pb < lo
  sl : sb < lo
  rp : rb ≠ pb
  rs : rb ≠ sb
  ps : pb ≠ sb
theorem rows3_set {w : World} {rb pb sb n lo b o : Nat} (h : Rows3 w rb pb sb n lo) (u : Value) (hb : b = rb ∨ b = pb ∨ b = sb) : Rows3 (w.setCell ⟨b, o, none⟩ u) rb pb sb n lo := by
  obtain ⟨⟨cr, r1, r2⟩, ⟨cp, p1, p2⟩, ⟨cs, s1, s2⟩, h4, h5, h6, h7, h8, h9⟩ := h
  have far : ∀ g : Nat, g ≠ b → (w.setCell ⟨b, o, none⟩ u).heap[g]? = w.heap[g]? := fun g hg => Below.heap_setCell _ _ _ _ hg
  rcases hb with rfl | rfl | rfl
  · exact ⟨⟨_, heap_setCell_at r1, by simp [r2]⟩, ⟨cp, by rw [far _ h7.symm]; exact p1, p2⟩, ⟨cs, by rw [far _ h8.symm]; exact s1, s2⟩, h4, h5, h6, h7, h8, h9⟩
  · exact ⟨⟨cr, by rw [far _ h7]; exact r1, r2⟩, ⟨_, heap_setCell_at p1, by simp [p2]⟩, ⟨cs, by rw [far _ h9.symm]; exact s1, s2⟩, h4, h5, h6, h7, h8, h9⟩
  · exact ⟨⟨cr, by rw [far _ h8]; exact r1, r2⟩, ⟨cp, by rw [far _ h9]; exact p1, p2⟩, ⟨_, heap_setCell_at s1, by simp [s2]⟩, h4, h5, h6, h7, h8, h9⟩
theorem rows3_upd {fp : Nat → Prop} {w w' : World} {rb pb sb n lo : Nat} (h : Rows3 w rb pb sb n lo) (hu : Upd fp w w') (hf : ∀ b, fp b → lo ≤ b) : Rows3 w' rb pb sb n lo := by
  obtain ⟨⟨cr, r1, r2⟩, ⟨cp, p1, p2⟩, ⟨cs, s1, s2⟩, h4, h5, h6, h7, h8, h9⟩ := h
  have far : ∀ g : Nat, g < lo → g < w.heap.size → w'.heap[g]? = w.heap[g]? := fun g hg hl => hu.block g hl (fun hh => by have := hf g hh; omega)
  exact ⟨⟨cr, (far _ h4 (block_lt r1)).trans r1, r2⟩, ⟨cp, (far _ h5 (block_lt p1)).trans p1, p2⟩, ⟨cs, (far _ h6 (block_lt s1)).trans s1, s2⟩, h4, h5, h6, h7, h8, h9⟩
/-- what is done stays where the rows of node i alone are turned -/
theorem done_set {w : World} {rb pb sb n lo H i b o : Nat} {T : List Tr} (h : Done w rb pb sb n lo H T (i + 1)) (h3 : Rows3 w rb pb sb n lo) (u : Value) (hb : (b = rb ∧ o < (i + 1) * 3) ∨ (b = pb ∧ o < (i + 1) * 3) ∨ (b = sb ∧ o < i + 1)) : Done (w.setCell ⟨b, o, none⟩ u) rb pb sb n lo H T (i + 1) := by
  have hbl : b < lo := by rcases hb with ⟨rfl, _⟩ | ⟨rfl, _⟩ | ⟨rfl, _⟩ <;> first | exact h3.rl | exact h3.pl | exact h3.sl
  have oth : ∀ g o', (g = b → o ≠ o') → (w.setCell ⟨b, o, none⟩ u).cell? ⟨g, o', none⟩ = w.cell? ⟨g, o', none⟩ := fun g o' hh => World.cell?_setCell_other _ _ _ _ (fun e : (⟨b, o, none⟩ : Addr) = ⟨g, o', none⟩ => by
    simp only [Addr.mk.injEq, and_true] at e
    exact hh e.1.symm e.2)
  refine done_same h (fun g o' hg _ => oth g o' (fun e => by omega)) (fun o' ho => oth _ _ (fun e => ?_)) (fun o' ho => oth _ _ (fun e => ?_)) (fun o' ho => oth _ _ (fun e => ?_)) (Nat.le_refl _)
  · have h7 := h3.rp; have h8 := h3.rs; omega
  · have h7 := h3.rp; have h8 := h3.ps; omega
  · have h7 := h3.rs; have h8 := h3.ps; omega
theorem done_upd {fp : Nat → Prop} {w w' : World} {rb pb sb n lo H i : Nat} {T : List Tr} (h : Done w rb pb sb n lo H T i) (h3 : Rows3 w rb pb sb n lo) (hu : Upd fp w w') (hf : ∀ b, fp b → H ≤ b) (hlo : lo ≤ H) (hH : H ≤ w.heap.size) : Done w' rb pb sb n lo H T i := by
  obtain ⟨⟨cr, r1, _⟩, ⟨cp, p1, _⟩, ⟨cs, s1, _⟩, h4, h5, h6, h7, h8, h9⟩ := h3
  have far : ∀ g o : Nat, g < H → w'.cell? ⟨g, o, none⟩ = w.cell? ⟨g, o, none⟩ := fun g o hg => upd_cell hu (by omega) (fun hh => by have := hf g hh; omega) o
  exact done_same h (fun g o _ hg => far g o hg) (fun o _ => far _ o (by omega)) (fun o _ => far _ o (by omega)) (fun o _ => far _ o (by omega)) (Nat.le_refl _)
def i64ok (n : Int) : Prop := -9223372036854775808 ≤ n ∧ n ≤ 9223372036854775807
/-- nodes as they lie, anywhere -/
def RdNd (w : World) (v : Value) (L : List Nd) : Prop := ∃ A c, v = .slice A L.length c ∧ L.length ≤ c ∧ (∀ x ∈ L, i64ok x.1 ∧ i64ok x.2.1 ∧ x.2.2.length ≤ maxLen) ∧ (L ≠ [] → ∃ b off, A = some ⟨b, off, none⟩ ∧ b < w.heap.size ∧ ∀ (i : Nat) (x : Nd), L[i]? = some x →
  w.cell? ⟨b, off + i * 3, none⟩ = some (.int .i64 x.1) ∧ w.cell? ⟨b, off + i * 3 + 1, none⟩ = some (.int .i64 x.2.1) ∧ ∃ s, w.cell? ⟨b, off + i * 3 + 2, none⟩ = some s ∧ RdB w s x.2.2)
theorem rdNd_ext {w w' : World} {v : Value} {L : List Nd} (h : RdNd w v L) (hE : Ext w w') : RdNd w' v L := by
  obtain ⟨A, c, h1, h2, h0, h3⟩ := h
  refine ⟨A, c, h1, h2, h0, fun hne => ?_⟩
  obtain ⟨b, off, h4, h5, h6⟩ := h3 hne
  refine ⟨b, off, h4, ext_lt hE h5, fun i x hx => ?_⟩
  obtain ⟨k1, k2, s, k3, k4⟩ := h6 i x hx
  exact ⟨(ext_cell hE _ _ h5).trans k1, (ext_cell hE _ _ h5).trans k2, s, (ext_cell hE _ _ h5).trans k3, rdB_ext k4 hE⟩
end Go.Proofs.Ytiabmdboacpmcaa
