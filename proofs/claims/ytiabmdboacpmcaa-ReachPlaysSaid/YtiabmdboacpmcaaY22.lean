/- Texts joined: Hm Ho. -/
import Derived.Test.YtiabmdboacpmcaaY21
import Derived.Test.YtiabmdboacpmcaaY17
/- Add: walked. -/
namespace Go.Proofs.Ytiabmdboacpmcaa
open Go Go.RowKit Go.Sort Go.WideMaps Go.Maps
set_option maxHeartbeats 4000000

structure ForM (w0 : World) (L : Loc) (room h : Int) (E : Gr3) (mv : List Mv) (b : Nat) (F : Nat → Prop) (w : World) : Prop where
  ex : ∃ S f, MidH w0 L room h E S (subF E) F w ∧ Best L f w ∧ FixB (autoM mv b) E f ∧ ∀ n, (S n).isSome = true ↔ isNode E n
structure Card (E : Gr3) (ks : List Key) : Prop where
  nd : ks.Nodup
  mem : ∀ k, k ∈ ks ↔ (E k).isSome = true
def addC (E : Gr3) (room : Int) (N : Nat) (k : Key) (u : Int) : Int := if rightB k u = false then 2 else if (E k).isSome = false ∧ room ≤ (N : Int) then 6 else 0
def addG (E : Gr3) (h room : Int) (N : Nat) (k : Key) (u : Int) : Gr3 := if rightB k u = false then E else if (E k).isSome = false ∧ room ≤ (N : Int) then E else if u < h ∨ (E k).isSome = true ∧ u ≤ (E k).getD 0 then E else setG E k u
theorem add_bad {E : Gr3} {h room : Int} {N : Nat} {k : Key} {u : Int} (hr : rightB k u = false) : addC E room N k u = 2 ∧ addG E h room N k u = E := by
  unfold addC addG
  exact ⟨if_pos hr, if_pos hr⟩
theorem add_full {E : Gr3} {h room : Int} {N : Nat} {k : Key} {u : Int} (hr : rightB k u = true) (h1 : (E k).isSome = false ∧ room ≤ (N : Int)) : addC E room N k u = 6 ∧ addG E h room N k u = E := by
  unfold addC addG
  constructor
  · rw [if_neg (by rw [hr]; decide), if_pos h1]
  · rw [if_neg (by rw [hr]; decide), if_pos h1]
theorem add_old {E : Gr3} {h room : Int} {N : Nat} {k : Key} {u : Int} (hr : rightB k u = true) (h1 : ¬ ((E k).isSome = false ∧ room ≤ (N : Int))) (h2 : u < h ∨ (E k).isSome = true ∧ u ≤ (E k).getD 0) : addC E room N k u = 0 ∧ addG E h room N k u = E := by
  unfold addC addG
  constructor
  · rw [if_neg (by rw [hr]; decide), if_neg h1]
  · rw [if_neg (by rw [hr]; decide), if_neg h1, if_pos h2]
theorem add_put {E : Gr3} {h room : Int} {N : Nat} {k : Key} {u : Int} (hr : rightB k u = true) (h1 : ¬ ((E k).isSome = false ∧ room ≤ (N : Int))) (h2 : ¬ (u < h ∨ (E k).isSome = true ∧ u ≤ (E k).getD 0)) : addC E room N k u = 0 ∧ addG E h room N k u = setG E k u := by
  unfold addC addG
  constructor
  · rw [if_neg (by rw [hr]; decide), if_neg h1]
  · rw [if_neg (by rw [hr]; decide), if_neg h1, if_neg h2]
def AddTo (w0 : World) (L : Loc) (room h : Int) (E : Gr3) (mv : List Mv) (b : Nat) (F : Nat → Prop) (N : Nat) (k : Key) (u : Int) (w : World) (e : Ending) (w' : World) : Prop :=
  e = .returned (.int .i64 (addC E room N k u)) ∧ ForM w0 L room h (addG E h room N k u) mv b (fun b => F b ∨ w.heap.size ≤ b) w' ∧ Upd F w w'
theorem forM_upd {w0 w w' : World} {L : Loc} {room h : Int} {E : Gr3} {mv : List Mv} {b : Nat} {F fp : Nat → Prop} (H : ForM w0 L room h E mv b F w) (hU : Upd fp w w') (hn : ∀ b, F b ∨ b < w0.heap.size → ¬ fp b) : ForM w0 L room h E mv b F w' := by
  obtain ⟨S, f, h1, ⟨N, h2⟩, h3, h4⟩ := H.ex
  exact ⟨S, f, mid_upd h1 hU hn, ⟨N, mapG_upd h2 hU (hn _ (.inl h1.own.2.2.2.1))⟩, h3, h4⟩
theorem forM_ext {w0 w w' : World} {L : Loc} {room h : Int} {E : Gr3} {mv : List Mv} {b : Nat} {F : Nat → Prop} (H : ForM w0 L room h E mv b F w) (hE : Ext w w') : ForM w0 L room h E mv b F w' := forM_upd H (upd_of_ext (fp := fun _ => False) hE) (fun _ _ h => h)
theorem forM_own {w0 w : World} {L : Loc} {room h : Int} {E : Gr3} {mv : List Mv} {b : Nat} {F F' : Nat → Prop} (H : ForM w0 L room h E mv b F w) (hF : ∀ b, b < w.heap.size → F b → F' b) : ForM w0 L room h E mv b F' w := by
  obtain ⟨S, f, h1, ⟨N, h2⟩, h3, h4⟩ := H.ex
  exact ⟨S, f, mid_own h1 (mapG_lt h2) hF, ⟨N, h2⟩, h3, h4⟩
theorem card_len {E : Gr3} {ks : List Key} (h : Card E ks) {b N : Nat} {w : World} (hM : MapE b N E w) : N = ks.length := (mapG_card hM h.nd h.mem).symm
theorem mid_edges {w0 w w' : World} {L : Loc} {room h : Int} {E E' : Gr3} {S : Int → Option Nat} {sub : Int → Key → Option Bool} {F : Nat → Prop} (H : MidH w0 L room h E S sub F w) (hU : Upd (fun b => b = L.be) w w') (hM : ∃ N, MapE L.be N E' w') : MidH w0 L room h E' S sub F w' ∧ (∀ N f, MapP L.bb N f w → MapP L.bb N f w') := by
  obtain ⟨N, h1⟩ := H.edges
  obtain ⟨M, h2⟩ := H.out
  have hpf : L.pf ≠ L.be := mapG_off h1 H.blk
  refine ⟨⟨(hU.block _ (block_lt H.blk) hpf).trans H.blk, hM, ⟨M, mapG_upd h2 hU (fun e => H.ne.1 e.symm)⟩, fun x c hx => ?_, H.ne, H.sne, H.sinj, H.low, ?_, H.own⟩, fun N f hP => mapG_upd hP hU (fun e => H.ne.2.1 e.symm)⟩
  · obtain ⟨N', h5⟩ := H.sub x c hx
    exact ⟨N', mapG_upd h5 hU (H.sne x c hx).1⟩
  · exact ext_of_upd (upd_trans (upd_of_ext H.ext) hU (fun i hi e => by have e' : i = L.be := e; have := H.low.2.1; omega))
theorem index2 (j : Int) (a c x : Int) (w : World) (h : (j = 0 ∧ x = a) ∨ (j = 1 ∧ x = c)) : (Instr.index 78 (.agg #[.int .i64 a, .int .i64 c]) (.int .i64 j)).run Try.prog w = .ok (.int .i64 x) w := by
  rcases h with ⟨rfl, rfl⟩ | ⟨rfl, rfl⟩ <;> kernel_rfl
theorem der_state {mv : List Mv} {b m : Nat} {E : Gr3} {x : Key} {t : Int} (hd : Der (autoM mv b) E x t) (hdst : ∀ s o d, (s, o, d) ∈ mv → d < m) (hb : b < m) : ∃ i : Nat, i < m ∧ x.c = (i : Int) := by
  induction hd with
  | base _ hs _ =>
    obtain ⟨i, h1, h2⟩ := hs
    exact ⟨i, way_lt hdst hb h2, h1⟩
  | step _ _ _ hs _ =>
    rcases hs.2 with ⟨_, _, i, j, _, e3, d, e4, e5⟩ | ⟨_, _, i, j, _, e3, d, e4, e5⟩
    · exact ⟨j, way_lt hdst (hdst _ _ _ e4) e5, e3⟩
    · exact ⟨j, way_lt hdst (hdst _ _ _ e4) e5, e3⟩
theorem mid_congr {w0 w : World} {L : Loc} {room h : Int} {E : Gr3} {S : Int → Option Nat} {sub sub' : Int → Key → Option Bool} {F : Nat → Prop} (H : MidH w0 L room h E S sub F w) (hs : ∀ n k', (S n).isSome = true → sub n k' = sub' n k') : MidH w0 L room h E S sub' F w :=
  ⟨H.blk, H.edges, H.out, fun n b hb => by obtain ⟨N, hN⟩ := H.sub n b hb; exact ⟨N, mapG_congr hN (fun z => hs n z (by rw [hb]; rfl)) rfl⟩, H.ne, H.sne, H.sinj, H.low, H.ext, H.own⟩
theorem mid_fs {w0 w : World} {L : Loc} {room h : Int} {E : Gr3} {S : Int → Option Nat} {sub : Int → Key → Option Bool} {F : Nat → Prop} (H : MidH w0 L room h E S sub F w) (hs : ∀ n k', (S n).isSome = true → sub n k' = subF E n k') (hn : ∀ n, (S n).isSome = true ↔ isNode E n) : FS w0 L room h E S w :=
  ⟨H.blk, H.edges, H.out, fun n b hb => by obtain ⟨N, hN⟩ := H.sub n b hb; exact ⟨N, mapG_congr hN (fun z => hs n z (by rw [hb]; rfl)) rfl⟩, H.ne, H.sne, H.sinj, H.low, H.ext, hn⟩
set_option maxRecDepth 100000 in
theorem add_any (w0 W0 : World) (L : Loc) (room h : Int) (E : Gr3) (m b en : Nat) (mv : List Mv) (F : Nat → Prop) (ks : List Key) (k : Key) (u : Int) (w : World)
    (H : ForM w0 L room h E mv b F w) (hM : Mach W0 L.pm m b (en : Int) mv w0) (hC : Card E ks) (hkl : ks.length ≤ 99) (hk : ok3 k) (hu : okI u) :
    Calls Try.prog 42 #[ptr L.pf, k3 k, .int .i64 u] w (AddTo w0 L room h E mv b F ks.length k u w) := by
  obtain ⟨S, f0, hMid, hBest, hFix, hNodes⟩ := H.ex
  obtain ⟨NE, hNE⟩ := hMid.edges
  obtain rfl := card_len hC hNE
  obtain ⟨W, hW⟩ : ∃ W, W = w.alloc (.cells #[.int .i64 k.a, .int .i64 k.b, .int .i64 k.c] 85) := ⟨_, rfl⟩
  have hE0 : Ext w W := by rw [hW]; exact ext_alloc (ext_refl _) _
  obtain ⟨bk, hbk⟩ : ∃ b, b = w.heap.size := ⟨_, rfl⟩
  have hK : W.heap[bk]? = some (.cells #[.int .i64 k.a, .int .i64 k.b, .int .i64 k.c] 85 (0, 0)) := by rw [hW, hbk]; exact heap_alloc_new _ _
  obtain ⟨val, hval⟩ : ∃ v, v = (E k).getD 0 := ⟨_, rfl⟩
  obtain ⟨has, hhas⟩ : ∃ v, v = (E k).isSome := ⟨_, rfl⟩
  have hlk : ∀ (d : Nat) (os : Array Obj), (Instr.lookup 95 (.map (some L.be)) (.agg #[.int .i64 k.a, .int .i64 k.b, .int .i64 k.c]) true).run Try.prog (grow (redrawn W d) os) = .ok (.tuple #[.int .i64 val, .bool has]) (grow (redrawn W d) os) := fun d os => by
    have h3 := look2_G Try.underlying95 (mapG_ext hNE (ext_trans hE0 (ext_grow (ext_refl _) d os))) (x := k) hk
    rw [hval, hhas]
    exact h3
  have HSTAY := Lib.hid (show ∀ w', Ext w w' → ForM w0 L room h E mv b (fun b => F b ∨ w.heap.size ≤ b) w' ∧ Upd F w w' from fun w' hE => ⟨forM_own (forM_ext H hE) (fun _ _ h => .inl h), upd_of_ext hE⟩)
  have HMID := Lib.hid hMid
  have HBEST := Lib.hid hBest
  have HFIX := Lib.hid hFix
  have HND := Lib.hid hNodes
  have HNE := Lib.hid hNE
  have HM := Lib.hid hM
  have HC := Lib.hid hC
  have HKO := Lib.hid hk
  have HUO := Lib.hid hu
  have HK := Lib.hid hK
  have HE0 := Lib.hid hE0
  have HW := Lib.hid (And.intro hW hbk)
  have HVAL := Lib.hid (And.intro hval hhas)
  obtain ⟨N, hN⟩ : ∃ N, N = ks.length := ⟨_, rfl⟩
  rw [← hN] at HNE hkl ⊢
  have HN := Lib.hid hN
  have q3 := block_cell ((ext_block hE0 (block_lt hMid.blk)).trans hMid.blk) 3
  have l0 := block_lt ((ext_block hE0 (block_lt hMid.blk)).trans hMid.blk)
  have k0 := block_cell hK 0
  have k1 := block_cell hK 1
  have k2 := block_cell hK 2
  have lk := block_lt hK
  obtain ⟨ri, hri⟩ : ∃ r, r = rightB k u := ⟨_, rfl⟩
  have HRI := Lib.hid hri
  have CR := Lib.hid (fun w' => right_any k u w')
  rw [← hri] at CR
  clear H hMid hBest hFix hNodes hNE hM hC hk hu hK hE0 hW hbk hval hhas hN hri
  simp only [k3]
  go_enter Try.func42, Try.ntmps42
  have hgc := cell_grown
  go_wp2
  rw [← HW.out.1, ← HW.out.2]
  refine wp_region_free 11 [0, 1, 2, 3, 4, 5, 6, 7, 8, 9, 10] [] (by kernel_rfl) (by kernel_rfl) ?_
  repeat (refine wpLoose_step rfl (fun K hK => ?_); (try simp only [Oper.quietAt, Oper.quietUpon]); go_simp; (refine hK _ ?_; clear hK K))
  refine wpLoose_nil (wpFresh_nil (fun w2 hE2 _ => ?_))
  simp only [List.drop_succ_cons, List.drop_zero]
  have HE2 := Lib.hid hE2
  have hk2 := (ext_block hE2 (block_lt HK.out)).trans HK.out
  clear q3 l0 k0 k1 k2 lk hlk hE2 hgc
  have k0 := block_cell hk2 0
  have k1 := block_cell hk2 1
  have k2 := block_cell hk2 2
  have lk := block_lt hk2
  clear hk2
  go_wp2_with fail
  refine (CR.out w2).mono ?_
  rintro e w3 ⟨rfl, hE3⟩
  have HE3 := Lib.hid (ext_trans HE2.out hE3)
  clear hE3 k0 k1 k2 lk
  cases ri with
  | false =>
    have HF := Lib.hid (show AddTo w0 L room h E mv b F N k u w (.returned (.int .i64 2)) w3 from by
      obtain ⟨h5, h6⟩ := HSTAY.out w3 (ext_trans HE0.out HE3.out)
      obtain ⟨h7, h8⟩ := add_bad (E := E) (h := h) (room := room) (N := N) HRI.out.symm
      unfold AddTo
      rw [h7, h8]
      exact ⟨rfl, h5, h6⟩)
    go_wp2
    refine bodyPost_ret (results_tmp rfl _ _ _) rfl ?_
    exact HF.out
  | true =>
    cases has with
    | false =>
      have hb3 := (ext_block (ext_trans HE0.out HE3.out) (block_lt HMID.out.blk)).trans HMID.out.blk
      have q1 := block_cell hb3 1
      have q3 := block_cell hb3 3
      have l0 := block_lt hb3
      have hlen : ∀ (d : Nat) (os : Array Obj) (ty : TypeId), (Builtin.len_ #[95] ty #[.map (some L.be)]).run Try.prog (grow (redrawn w3 d) os) = .ok (.int .i64 (N : Int)) (grow (redrawn w3 d) os) := fun d os ty => len_G Try.underlying95 (mapG_ext HNE.out (ext_trans (ext_trans HE0.out HE3.out) (ext_grow (ext_refl _) d os)))
      clear hb3
      have hgc := cell_grown
      by_cases hfull : room ≤ (N : Int)
      · have hd1 : decide (room ≤ (N : Int)) = true := decide_eq_true hfull
        go_wp2
        refine wp_region_free 15 [0, 1, 2, 3, 4, 5, 6, 7, 8, 9, 10, 11, 12, 13, 14] [] (by kernel_rfl) (by kernel_rfl) ?_
        repeat (refine wpLoose_step rfl (fun K hK => ?_); (try simp only [Oper.quietAt, Oper.quietUpon]); go_simp; (refine hK _ ?_; clear hK K))
        refine wpLoose_nil (wpFresh_nil (fun w4 hE4 _ => ?_))
        simp only [List.drop_succ_cons, List.drop_zero]
        have HE4 := Lib.hid (ext_trans HE0.out (ext_trans HE3.out hE4))
        have HEW4 := Lib.hid (ext_trans HE3.out hE4)
        clear q1 q3 l0 hlen hE4 hgc
        have HF := Lib.hid (show AddTo w0 L room h E mv b F N k u w (.returned (.int .i64 6)) w4 from by
          obtain ⟨h5, h6⟩ := HSTAY.out w4 HE4.out
          obtain ⟨h7, h8⟩ := add_full (E := E) (h := h) (room := room) (N := N) HRI.out.symm ⟨HVAL.out.2.symm, hfull⟩
          unfold AddTo
          rw [h7, h8]
          exact ⟨rfl, h5, h6⟩)
        clear hd1
        go_wp2
        refine bodyPost_ret (results_tmp rfl _ _ _) rfl ?_
        exact HF.out
      · have hd1 : decide (room ≤ (N : Int)) = false := decide_eq_false hfull
        go_wp2
        refine wp_region_free 15 [0, 1, 2, 3, 4, 5, 6, 7, 8, 9, 10, 11, 12, 13, 14] [] (by kernel_rfl) (by kernel_rfl) ?_
        repeat (refine wpLoose_step rfl (fun K hK => ?_); (try simp only [Oper.quietAt, Oper.quietUpon]); go_simp; (refine hK _ ?_; clear hK K))
        refine wpLoose_nil (wpFresh_nil (fun w4 hE4 _ => ?_))
        simp only [List.drop_succ_cons, List.drop_zero]
        have HE4 := Lib.hid (ext_trans HE0.out (ext_trans HE3.out hE4))
        have HEW4 := Lib.hid (ext_trans HE3.out hE4)
        clear q1 q3 l0 hlen hE4 hgc
        have hb4 := (ext_block HE4.out (block_lt HMID.out.blk)).trans HMID.out.blk
        have q2 := block_cell hb4 2
        have l0 := block_lt hb4
        clear hb4
        have HFU := Lib.hid hfull
        clear hd1 hfull
        by_cases hlow : u < h
        · have hd2 : decide (u < h) = true := decide_eq_true hlow
          have HF := Lib.hid (show AddTo w0 L room h E mv b F N k u w (.returned (.int .i64 0)) w4 from by
            obtain ⟨h5, h6⟩ := HSTAY.out w4 HE4.out
            obtain ⟨h7, h8⟩ := add_old (E := E) (h := h) (room := room) (N := N) HRI.out.symm (fun c => by have h9 := HFU.out; have h10 := c.2; omega) (.inl hlow)
            unfold AddTo
            rw [h7, h8]
            exact ⟨rfl, h5, h6⟩)
          go_wp2
          refine bodyPost_ret (results_tmp rfl _ _ _) rfl ?_
          exact HF.out
        · have hd2 : decide (u < h) = false := decide_eq_false hlow
          have HLOW := Lib.hid hlow
          have HG := Lib.hid (show addC E room N k u = 0 ∧ addG E h room N k u = setG E k u ∧ ∀ v, E k = some v → v ≤ u from by
            obtain ⟨h7, h8⟩ := add_put (E := E) (h := h) (room := room) (N := N) HRI.out.symm (fun c => by have h9 := HFU.out; have h10 := c.2; omega) (fun c => by
              rcases c with h5 | h5
              · exact HLOW.out h5
              · rw [← HVAL.out.2] at h5; exact absurd h5.1 (by decide))
            exact ⟨h7, h8, fun v hv => by have h5 := HVAL.out.2; rw [hv] at h5; cases h5⟩)
          clear hlow
          have hk4 := (ext_block HEW4.out (block_lt HK.out)).trans HK.out
          have hb4 := (ext_block HE4.out (block_lt HMID.out.blk)).trans HMID.out.blk
          have HK4 := Lib.hid hk4
          have q3 := block_cell hb4 3
          have k0 := block_cell hk4 0
          have k1 := block_cell hk4 1
          have k2 := block_cell hk4 2
          have lk := block_lt hk4
          clear hk4 hb4
          have hgc := cell_grown
          go_wp2
          refine wp_region_mix [] [0, 1, 2, 3, 4, 5] [] [6] (by kernel_rfl) (by kernel_rfl) (fun _ _ d _ _ h => by cases d <;> exact h) ?_
          refine wpPre_nil ?_
          repeat (refine wpLoose_step rfl (fun K hK => ?_); (try simp only [Oper.quietAt, Oper.quietUpon]); go_simp; (refine hK _ ?_; clear hK K))
          refine wpLoose_nil (wpFresh_nil (fun w5 hE5 _ => ?_))
          try simp only [List.drop_succ_cons, List.drop_zero]
          have HE5 := Lib.hid hE5
          clear q2 q3 l0 k0 k1 k2 lk hE5 hgc
          refine wpSeq_of_list [6] [_] _ _ rfl ?_
          refine wpList_store_G (K := kK) (E := eI) _ rfl (.tmp 60) (.tmp 61) (.tmp 62) 95 rfl Try.underlying95 rfl (mapG_ext HNE.out (ext_trans HE4.out HE5.out)) (by unfold maxLen; omega) k rfl HKO.out u rfl HUO.out (fun w6 hP6 hg6 => ?_)
          obtain ⟨F1, hF1⟩ : ∃ F1 : Nat → Prop, F1 = fun b => F b ∧ b < w.heap.size ∨ w.heap.size < b := ⟨_, rfl⟩
          have hF1w : ∀ b, b < w.heap.size → F1 b → F b := fun b hb hf => by
            rw [hF1] at hf
            rcases hf with h5 | h5
            · exact h5.1
            · omega
          have hbw : L.bb < w.heap.size := by obtain ⟨NB, hNB⟩ := HBEST.out; exact mapG_lt hNB
          have hU6 := upd_mono (upd_grown hg6) (fp' := fun b => b = L.be) (fun i _ e => (Option.some.inj e).symm)
          have hmid6 := mid_edges (E' := setG E k u) (midH_ext (mid_own HMID.out hbw (F' := F1) (fun b hb hF => by rw [hF1]; exact .inl ⟨hF, hb⟩)) (ext_trans HE4.out HE5.out)) hU6 ⟨_, mapG_congr hP6 (fun z => rfl) rfl⟩
          have hbest6 : Best L f0 w6 := by
            obtain ⟨NB, hNB⟩ := HBEST.out
            exact ⟨NB, hmid6.2 NB f0 (mapG_ext hNB (ext_trans HE4.out HE5.out))⟩
          have hkbe : bk ≠ L.be := mapG_off (mapG_ext HNE.out HE4.out) HK4.out
          have hk6 := (hU6.block bk (ext_lt HE5.out (block_lt HK4.out)) hkbe).trans ((ext_block HE5.out (block_lt HK4.out)).trans HK4.out)
          have hUw6 : Upd F w w6 := upd_trans (upd_of_ext (ext_trans HE4.out HE5.out)) hU6 (fun i hi e => by have e' : i = L.be := e; rw [e']; exact HMID.out.own.2.1)
          have HMID6 := Lib.hid hmid6.1
          have HBEST6 := Lib.hid hbest6
          have HK6 := Lib.hid hk6
          have HUW6 := Lib.hid hUw6
          have HF1 := Lib.hid hF1
          have HF1W := Lib.hid hF1w
          have HBKW := Lib.hid (show bk = w.heap.size from HW.out.2)
          have HNBK := Lib.hid (show ¬ F1 bk from by rw [hF1, HBKW.out]; rintro (h5 | h5) <;> omega)
          have HBW := Lib.hid hbw
          clear hF1 hF1w hbw hU6 hmid6 hbest6 hkbe hk6 hUw6 hP6 hg6
          have k0 := block_cell HK6.out 0
          have k1 := block_cell HK6.out 1
          have k2 := block_cell HK6.out 2
          have lk := block_lt HK6.out
          go_simp
          go_wp2_with fail
          refine (ends_any k w6).mono ?_
          rintro e w7 ⟨rfl, hE7⟩
          have HMID7 := Lib.hid (midH_ext HMID6.out hE7)
          have HBEST7 := Lib.hid (best_ext HBEST6.out hE7)
          have HK7 := Lib.hid ((ext_block hE7 (block_lt HK6.out)).trans HK6.out)
          have HUW7 := Lib.hid (upd_trans HUW6.out (upd_of_ext (fp := fun _ => False) hE7) (fun _ _ h => h.elim))
          clear hE7 k0 k1 k2 lk
          go_wp2
          go_loopw [65] (fun y wr => ∃ j : Nat, j ≤ 2 ∧ y = .int .i64 (j : Int) ∧ (∃ S1 sub1 f1, MidH w0 L room h (setG E k u) S1 sub1 F1 wr ∧ Best L f1 wr ∧ EndF mv b E k f0 ([k.a, k.c].take j) S1 sub1 f1) ∧ wr.heap[bk]? = some (.cells #[.int .i64 k.a, .int .i64 k.b, .int .i64 k.c] 85 (0, 0)) ∧ Upd F w wr) (fun y _ => 2 - (intOf y).toNat)
          case atStart => exact ⟨0, by omega, rfl, ⟨S, subF E, f0, HMID7.out, HBEST7.out, ⟨fun n => by rw [HND.out]; simp, fun n k' _ => by simp, fun y v hv => .inl hv, leB_refl _, fun n s hn => by simp at hn⟩⟩, HK7.out, HUW7.out⟩
          case round =>
            rename World => wi
            obtain ⟨j, hj, rfl, ⟨S1, sub1, f1, hm1, hb1, he1⟩, hki, hui⟩ := hrel
            have HM1 := Lib.hid hm1
            have HB1 := Lib.hid hb1
            have HEN := Lib.hid he1
            have HKI := Lib.hid hki
            have HUI := Lib.hid hui
            clear hm1 hb1 he1 hki hui
            by_cases hlt : j < 2
            · have hji : (j : Int) < 2 := by omega
              obtain ⟨n, hnok, hix, htk⟩ : ∃ n : Int, okI n ∧ (∀ w, (Instr.index 78 (.agg #[.int .i64 k.a, .int .i64 k.c]) (.int .i64 (j : Int))).run Try.prog w = .ok (.int .i64 n) w) ∧ [k.a, k.c].take (j + 1) = [k.a, k.c].take j ++ [n] := by
                rcases (by omega : j = 0 ∨ j = 1) with rfl | rfl
                · exact ⟨k.a, HKO.out.1, fun w => index2 0 _ _ _ w (.inl ⟨rfl, rfl⟩), rfl⟩
                · exact ⟨k.c, HKO.out.2.2, fun w => index2 1 _ _ _ w (.inr ⟨rfl, rfl⟩), rfl⟩
              have HTK := Lib.hid htk
              have HNOK := Lib.hid hnok
              -- places and nodes that there may be
              have hcall : Calls Try.prog 71 #[ptr L.pf, .int .i64 n] wi (NodePost w0 L room h (setG E k u) S1 sub1 F1 mv b n f1 wi) := by
                cases hS : S1 n with
                | some c => exact node_old w0 L room h _ S1 sub1 F1 mv b n f1 wi HM1.out HB1.out hnok (by rw [hS]; rfl)
                | none =>
                  have hmem : ∀ z, (E z).isSome = true → z ∈ k :: ks := fun z hz => List.mem_cons_of_mem _ ((HC.out.mem z).2 hz)
                  have hmem' : ∀ z, (setG E k u z).isSome = true → z ∈ k :: ks := fun z hz => by
                    by_cases e : z = k
                    · rw [e]; exact List.mem_cons_self ..
                    · rw [setG_other e] at hz; exact hmem z hz
                  obtain ⟨P, hP1, hP2⟩ := places_of (setG E k u) m (k :: ks) HM.out.hm hmem' (by rw [List.length_cons, ← HN.out]; omega)
                  refine node_new w0 W0 L room h _ S1 sub1 F1 m b en mv n f1 wi ((k :: ks).flatMap fun z => [z.a, z.c]) P HM1.out HM.out HB1.out hnok hS (fun x hx => ?_) ?_ (fun y hy => ?_) hP1 (endF_none HEN.out HFIX.out.sound hS)
                  · rcases (HEN.out.nodes x).1 hx with h5 | h5
                    · obtain ⟨z, v, hz, e⟩ := h5
                      refine List.mem_flatMap.2 ⟨z, hmem z (by rw [hz]; rfl), ?_⟩
                      rcases e with e | e
                      · rw [← e]; exact List.mem_cons_self ..
                      · rw [← e]; exact List.mem_cons_of_mem _ (List.mem_singleton.2 rfl)
                    · have h6 := List.mem_of_mem_take h5
                      exact List.mem_flatMap.2 ⟨k, List.mem_cons_self .., h6⟩
                  · have : ∀ l : List Key, (l.flatMap fun z => [z.a, z.c]).length = 2 * l.length := by
                      intro l
                      induction l with
                      | nil => rfl
                      | cons z l ih => rw [List.flatMap_cons, List.length_append, ih, List.length_cons]; simp; omega
                    rw [this, List.length_cons, ← HN.out]
                    omega
                  · obtain ⟨v, hv⟩ := Option.isSome_iff_exists.1 hy
                    rw [hP2]
                    rcases HEN.out.old y v hv with h5 | ⟨h5, h6, h7, h8, h9⟩
                    · have hd := der_mono (setG_le (k := k) (u := u) HG.out.2.2) (HFIX.out.sound y v h5)
                      exact ⟨(der_nodes hd).1, (der_nodes hd).2, der_state hd HM.out.dst HM.out.lt⟩
                    · have hne : isNode (setG E k u) y.b := (node_setG' HG.out.2.2).2 (.inr (by simpa using List.mem_of_mem_take h8))
                      refine ⟨by rw [h7]; exact hne, hne, ?_⟩
                      obtain ⟨i, h10, h11⟩ := h9
                      exact ⟨i, way_lt HM.out.dst HM.out.lt h11, h10⟩
              have HCALL := Lib.hid hcall
              clear htk hnok hcall
              go_wp2_with fail
              refine HCALL.out.mono ?_
              rintro e w8 ⟨rfl, S2, sub2, f2, hm2, hb2, hnt, hu2⟩
              have hm2' : MidH w0 L room h (setG E k u) S2 sub2 F1 w8 := mid_own hm2 (by obtain ⟨NB, hNB⟩ := hb2; exact mapG_lt hNB) (fun c hc hf => by
                rcases hf with h5 | h5
                · exact h5
                · rw [HF1.out]
                  have h6 := block_lt HKI.out
                  have h7 := HBKW.out
                  exact .inr (by omega))
              have hk8 := (hu2.block bk (block_lt HKI.out) HNBK.out).trans HKI.out
              have hu8 : Upd F w w8 := upd_trans HUI.out hu2 (fun i hi hf => HF1W.out i hi hf)
              obtain ⟨sb, hsb⟩ := Option.isSome_iff_exists.1 hnt.has
              obtain ⟨NO, hO⟩ := hm2'.out
              obtain ⟨NS, hNS⟩ := hm2'.sub n sb hsb
              have hNSl : NS ≤ 100 := by
                have h5 := mapG_le (M := k :: ks) hNS (fun z hz => by
                  cases hS : S1 n with
                  | none => rw [hnt.new hS] at hz; cases hz
                  | some c =>
                    have hs' : (S1 n).isSome = true := by rw [hS]; rfl
                    rw [hnt.sub n (.inr hs'), HEN.out.sub n z hs'] at hz
                    by_cases e : z = k
                    · rw [e]; exact List.mem_cons_self ..
                    · rw [if_neg (fun c => e c.1)] at hz
                      unfold subF at hz
                      split at hz
                      · rename_i hh; exact List.mem_cons_of_mem _ ((HC.out.mem z).2 hh.1)
                      · cases hz)
                rw [List.length_cons, ← HN.out] at h5
                omega
              have HM2 := Lib.hid hm2'
              have HB2 := Lib.hid hb2
              have HNT := Lib.hid hnt
              have HK8 := Lib.hid hk8
              have HU8 := Lib.hid hu8
              have HSB := Lib.hid hsb
              have HNS := Lib.hid hNS
              have q4 := block_cell hm2'.blk 4
              have l0 := block_lt hm2'.blk
              have k0 := block_cell hk8 0
              have k1 := block_cell hk8 1
              have k2 := block_cell hk8 2
              have lk := block_lt hk8
              have hlk : ∀ (d : Nat) (os : Array Obj), (Instr.lookup 119 (.map (some L.bo)) (.int .i64 n) false).run Try.prog (grow (redrawn w8 d) os) = .ok (.map (some sb)) (grow (redrawn w8 d) os) := fun d os => by
                have h3 := look_G Try.underlying119 (mapG_ext hO (ext_grow (ext_refl _) d os)) (x := n) HNOK.out
                rw [hsb] at h3
                exact h3
              have hgc := cell_grown
              clear hm2 hb2 hnt hu2 hm2' hk8 hu8 hsb hO hNS
              go_wp2
              refine wp_region_mix [] [0, 1, 2, 3, 4, 5, 6] [] [7] (by kernel_rfl) (by kernel_rfl) (fun _ _ d _ _ h => by cases d <;> exact h) ?_
              refine wpPre_nil ?_
              repeat (refine wpLoose_step rfl (fun K hK => ?_); (try simp only [Oper.quietAt, Oper.quietUpon]); go_simp; (refine hK _ ?_; clear hK K))
              refine wpLoose_nil (wpFresh_nil (fun w9 hE9 _ => ?_))
              try simp only [List.drop_succ_cons, List.drop_zero]
              have HE9 := Lib.hid hE9
              clear q4 l0 k0 k1 k2 lk hlk hE9 hgc hix
              refine wpSeq_of_list [7] [_] _ _ rfl ?_
              refine wpList_store_G (K := kK) (E := eB) _ rfl (.tmp 76) (.tmp 77) (.const (.bool true)) 128 rfl Try.underlying128 rfl (mapG_ext HNS.out HE9.out) (by unfold maxLen; omega) k rfl HKO.out true rfl trivial (fun wa hPa hga => ?_)
              have hUa := upd_mono (upd_grown hga) (fp' := fun b => b = sb) (fun i _ e => (Option.some.inj e).symm)
              have hma := mid_sub (midH_ext HM2.out HE9.out) (by obtain ⟨NB, hNB⟩ := best_ext HB2.out HE9.out; exact ⟨NB, _, hNB⟩) HSB.out hUa ⟨_, hPa⟩
              have hba : Best L f2 wa := by
                obtain ⟨NB, hNB⟩ := best_ext HB2.out HE9.out
                exact ⟨NB, hma.2 _ _ hNB⟩
              have hksb : bk ≠ sb := mapG_off HNS.out HK8.out
              have HMA := Lib.hid hma.1
              have HBA := Lib.hid hba
              have HKA := Lib.hid ((hUa.block bk (ext_lt HE9.out (block_lt HK8.out)) hksb).trans ((ext_block HE9.out (block_lt HK8.out)).trans HK8.out))
              have HUA := Lib.hid (show Upd F w wa from upd_trans (upd_trans HU8.out (upd_of_ext (fp := fun _ => False) HE9.out) (fun _ _ h => h.elim)) hUa (fun i hi e => by
                have e' : i = sb := e
                have h5 := HM2.out.own.2.2.2.2 n sb HSB.out
                rw [e']
                exact HF1W.out sb (by omega) h5))
              clear hPa hga hUa hma hba hksb
              go_simp
              go_wp2
              go_roundw
              case rel => exact ⟨j + 1, by omega, by go_num, ⟨S2, _, f2, HMA.out, HBA.out, by rw [HTK.out]; exact end_step HEN.out HNT.out HFIX.out.sound⟩, HKA.out, HUA.out⟩
              case measure => simp [intOf]; omega
            · have hj2 : j = 2 := by omega
              subst hj2
              have hjn : ¬ ((2 : Nat) : Int) < 2 := by omega
              obtain ⟨g1, g2, g3, g4⟩ := end_final HEN.out HFIX.out HG.out.2.2
              obtain ⟨NP, hNP⟩ := HB1.out
              obtain ⟨X, hX1, hX2, hX3⟩ := mapG_keys hNP
              have hEok : ∀ z v, setG E k u z = some v → ok3 z ∧ okI v := fun z v hz => by
                obtain ⟨NE', hNE'⟩ := HM1.out.edges
                exact mapG_out hNE' hz
              obtain ⟨P, V, hG, hP1, hV1, hP2, hP3⟩ := good_of w0 L room h (setG E k u) S1 mv b m f1 (k :: ks) (X.map fun x => (f1 x).getD 0) HM.out.hm HM.out.dst (fun z hz => by
                  by_cases e : z = k
                  · rw [e]; exact List.mem_cons_self ..
                  · rw [setG_other e] at hz; exact List.mem_cons_of_mem _ ((HC.out.mem z).2 hz)) (by rw [List.length_cons, ← HN.out]; omega) g1 hEok (fun y v hv => by
                  have hd := g4 y v hv
                  exact ⟨(der_nodes hd).1, (der_nodes hd).2, der_state hd HM.out.dst HM.out.lt, List.mem_map.2 ⟨y, (hX2 y).2 (by rw [hv]; rfl), by rw [hv]; rfl⟩⟩) (fun v hv => by
                  obtain ⟨x, hx, rfl⟩ := List.mem_map.1 hv
                  obtain ⟨v, hv⟩ := Option.isSome_iff_exists.1 ((hX2 x).1 hx)
                  rw [hv]
                  exact (mapG_out hNP hv).2)
              have hlastV : ∀ x v, f1 x = some v → v ∈ V := fun x v hv => hV1 v (List.mem_map.2 ⟨x, (hX2 x).2 (by rw [hv]; rfl), by rw [hv]; rfl⟩)
              obtain ⟨cc, hcc⟩ : ∃ c : Env, c = ⟨w0, L, room, h, setG E k u, S1, autoM mv b, P, V⟩ := ⟨_, rfl⟩
              rw [← hcc] at hG
              have hMF : MachF cc W0 m b en mv := by
                rw [hcc]
                exact ⟨HM.out, rfl, hP2⟩
              have hEc : cc.E = setG E k u := by rw [hcc]
              have hAc : cc.A = autoM mv b := by rw [hcc]
              have hPc : cc.P = P := by rw [hcc]
              have hVc : cc.V = V := by rw [hcc]
              have hLc : cc.L = L := by rw [hcc]
              have hfs1 : cc.fs wi := by
                rw [hcc]
                exact mid_fs HM1.out g2 g1
              have hbest1 : cc.best f1 wi := by
                rw [hcc]
                exact ⟨⟨NP, hNP⟩, hP1⟩
              have HGO := Lib.hid hG
              have HMF := Lib.hid hMF
              have HEC := Lib.hid hEc
              have HAC := Lib.hid hAc
              have HPC := Lib.hid hPc
              have HVC := Lib.hid hVc
              have HLC := Lib.hid hLc
              have HLV := Lib.hid hlastV
              have HFS1 := Lib.hid hfs1
              have HBE1 := Lib.hid hbest1
              have HNP := Lib.hid hNP
              have HP1 := Lib.hid hP1
              have HEND := Lib.hid (And.intro g3 g4)
              have HSN1 := Lib.hid (And.intro g1 g2)
              have q5 := block_cell HM1.out.blk 5
              have l0 := block_lt HM1.out.blk
              clear g1 g2 g3 g4 hX1 hX2 hX3 hEok hG hP1 hV1 hP2 hP3 hlastV hcc hMF hEc hAc hPc hVc hLc hfs1 hbest1 hNP
              go_wp2_with fail
              refine (cloneP_any L.bb NP f1 wi HNP.out).mono ?_
              rintro e w8 ⟨rfl, hcl, hE8, _⟩
              have HCL := Lib.hid hcl
              have HE8 := Lib.hid hE8
              obtain ⟨cb, hcb⟩ : ∃ c, c = wi.heap.size := ⟨_, rfl⟩
              rw [← hcb] at HCL ⊢
              have HCB := Lib.hid hcb
              clear hcl hE8 hcb q5 l0
              go_wp2_with (first
                | (at_range; refine wpList_range_G _ rfl _ _ rfl Try.underlying120 rfl HCL.out ?_; intro w9 r hr0; have HLR := Lib.hid hr0; clear hr0; intro hrng hE9 hs9)
                | go_in)
              have HRN := Lib.hid hrng
              have HE9 := Lib.hid (ext_trans HE8.out hE9)
              have HLR' := Lib.hid (show wi.heap.size ≤ r by rw [HLR.out]; exact ext_size HE8.out)
              have HBBL := Lib.hid (show L.bb < wi.heap.size from mapG_lt HNP.out)
              clear hrng hE9 hs9
              go_simp
              go_loopw [11] (fun _ wn => ∃ (done : List Key) (g : Bst), RngG kP eI cb r NP f1 done wn ∧ cc.best g wn ∧ Visit cc.A cc.E forever f1 g ∧ (∀ x ∈ done, ∀ v z, f1 x = some v → Succ cc.A x k z → geO (g z) (min v u)) ∧ wn.heap[bk]? = some (.cells #[.int .i64 k.a, .int .i64 k.b, .int .i64 k.c] 85 (0, 0)) ∧ Upd (fun b => b = L.bb) wi wn) (fun _ wn => wn.rangeLeft cb r)
              case atStart => exact ⟨[], f1, HRN.out, env_best_ext HBE1.out HE9.out, visit_refl .., (fun x hx => by cases hx), (ext_block HE9.out (block_lt HKI.out)).trans HKI.out, upd_of_ext HE9.out⟩
              case round =>
                rename World => wn
                obtain ⟨done, g, hR, hbg, hvg, hqg, hkn, hun⟩ := hrel
                have HR := Lib.hid hR
                have HBG := Lib.hid hbg
                have HVG := Lib.hid hvg
                have HQG := Lib.hid hqg
                have HKN := Lib.hid hkn
                have HUN := Lib.hid hun
                clear hR hbg hvg hqg hkn hun
                go_wp2_with (first
                  | (at_next; refine wpList_next_G wn rfl _ rfl rfl HR.out ?_ ?_)
                  | go_in)
                · intro hall
                  have HF := Lib.hid (show AddTo w0 L room h E mv b F N k u w (.returned (.int .i64 0)) wn from by
                    obtain ⟨h5, h6, h7⟩ := HG.out
                    unfold AddTo
                    rw [h5, h6]
                    have hbn := HBG.out.1
                    rw [HLC.out] at hbn
                    have hvis := HVG.out
                    have hqq := HQG.out
                    rw [HAC.out, HEC.out] at hvis
                    rw [HAC.out] at hqq
                    refine ⟨rfl, ⟨S1, g, ?_, hbn, ?_, HSN1.out.1⟩, upd_trans HUI.out HUN.out (fun i hi e => by have e' : i = L.bb := e; rw [e']; exact HMID.out.own.2.2.2.1)⟩
                    · have h8 := mid_congr (mid_best HM1.out ⟨NP, _, HNP.out⟩ HUN.out) HSN1.out.2
                      exact mid_own h8 (by obtain ⟨NB, hNB⟩ := hbn; exact mapG_lt hNB) (fun c _ hc => by
                        rw [HF1.out] at hc
                        rcases hc with h9 | h9
                        · exact .inl h9.1
                        · exact .inr (by omega))
                    · exact add_fix HFIX.out h7 HEND.out.1 hvis.le (fun y hy => (hvis.chg y hy).1) (fun y v z hy hs => hqq y (hall y (by rw [hy]; rfl)) v z hy hs) (hvis.sound HEND.out.2))
                  clear hall
                  go_wp2
                  refine bodyPost_ret (results_tmp rfl _ _ _) rfl ?_
                  exact HF.out
                · intro x lasts w10 hfx hnx hR10 hlt10 hg10 hs10 hen
                  rw [show kP.val x = .agg #[.int .i64 x.a, .int .i64 x.b, .int .i64 x.c] from rfl, show eI.val lasts = .int .i64 lasts from rfl] at hen ⊢
                  have hU10 := upd_grown hg10
                  have hrk : r ≠ bk := fun e => (rngG_off HR.out HKN.out).2 e.symm
                  have hrb : r ≠ L.bb := fun e => by have h5 := HLR'.out; have h6 := HBBL.out; omega
                  have hk10 := (hU10.block bk (block_lt HKN.out) (fun e => hrk (Option.some.inj e))).trans HKN.out
                  obtain ⟨wa, hwa⟩ : ∃ x', x' = w10.alloc (.cells #[.int .i64 x.a, .int .i64 x.b, .int .i64 x.c] 124) := ⟨_, rfl⟩
                  have hEa : Ext w10 wa := by rw [hwa]; exact ext_alloc (ext_refl _) _
                  have hUa : Upd (fun b => b = L.bb) wi wa := upd_trans (upd_trans HUN.out hU10 (fun i hi e => absurd hi (by have h5 : r = i := Option.some.inj e; have := HLR'.out; omega))) (upd_of_ext (fp := fun _ => False) hEa) (fun _ _ h => h.elim)
                  have hbga : cc.best g wa := by
                    obtain ⟨⟨NB, h5⟩, h6⟩ := HBG.out
                    refine ⟨⟨NB, mapG_ext (mapG_upd h5 hU10 (fun e => ?_)) hEa⟩, h6⟩
                    rw [HLC.out] at e
                    exact hrb (Option.some.inj e)
                  have hfsa : cc.fs wa := env_fs_upd HFS1.out HBE1.out (by rw [HLC.out]; exact hUa)
                  have hka := (ext_block hEa (block_lt hk10)).trans hk10
                  have HRA := Lib.hid (rngG_ext hR10 hEa)
                  have HLA := Lib.hid (show wa.rangeLeft cb r < wn.rangeLeft cb r by rw [left_ext hR10 hEa]; exact hlt10)
                  have hder : Der cc.A cc.E x lasts := by rw [HAC.out, HEC.out]; exact HEND.out.2 x lasts hfx
                  have hekc : cc.E k = some u := by rw [HEC.out]; exact setG_same ..
                  have hxP : x ∈ cc.P := by rw [HPC.out]; exact HP1.out x (by rw [hfx]; rfl)
                  have hlV : lasts ∈ cc.V := by rw [HVC.out]; exact HLV.out x lasts hfx
                  have hcall := along_all cc HGO.out W0 m b en mv HMF.out _ x k lasts u g wa hfsa hbga (Nat.le_refl _) hxP hlV hekc (fun _ => hder)
                  rw [HLC.out] at hcall
                  have HCALL := Lib.hid hcall
                  have HTOP := Lib.hid (der_top hder)
                  have HFX := Lib.hid hfx
                  have HUA := Lib.hid hUa
                  have HBGA := Lib.hid hbga
                  have HKA := Lib.hid hka
                  have HRB := Lib.hid (And.intro hrb hrk)
                  have k0 := block_cell hk10 0
                  have k1 := block_cell hk10 1
                  have k2 := block_cell hk10 2
                  have lk := block_lt hk10
                  have hcbb : cb ≠ L.bb := by have h5 := HCB.out; have h6 := HBBL.out; omega
                  have HCBB := Lib.hid hcbb
                  have hbkb : bk ≠ L.bb := mapG_off HNP.out HKI.out
                  have HBKB := Lib.hid hbkb
                  clear hfx hnx hR10 hlt10 hg10 hs10 hU10 hrk hrb hk10 hEa hUa hbga hfsa hka hder hekc hxP hlV hcall hcbb hbkb
                  have HNEXT := Lib.hid (show ∀ (e : Ending) (w' : World), Left cc lasts g (fun g => ∀ z, Succ cc.A x k z → geO (g z) (min lasts u)) wa e w' → e = .returned (.tuple #[]) ∧ (∃ (done' : List Key) (g' : Bst), RngG kP eI cb r NP f1 done' w' ∧ cc.best g' w' ∧ Visit cc.A cc.E forever f1 g' ∧ (∀ x ∈ done', ∀ v z, f1 x = some v → Succ cc.A x k z → geO (g' z) (min v u)) ∧ w'.heap[bk]? = some (.cells #[.int .i64 k.a, .int .i64 k.b, .int .i64 k.c] 85 (0, 0)) ∧ Upd (fun b => b = L.bb) wi w') ∧ w'.rangeLeft cb r < wn.rangeLeft cb r from by
                    rintro e w' ⟨rfl, g', h5, h6, h7, h8⟩
                    rw [HLC.out] at h8
                    refine ⟨rfl, ⟨done ++ [x], g', rngG_upd HRA.out h8 HCBB.out HRB.out.1, h5, visit_trans HVG.out (visit_top h6 HTOP.out), fun y hy v z hv hs => ?_, (h8.block bk (block_lt HKA.out) HBKB.out).trans HKA.out, upd_trans HUA.out h8 (fun _ _ h => h)⟩, ?_⟩
                    · rcases List.mem_append.1 hy with h9 | h9
                      · exact geO_le (HQG.out y h9 v z hv hs) (h6.le z)
                      · rw [List.mem_singleton.1 h9] at hv hs
                        rw [HFX.out] at hv
                        cases hv
                        exact h7 z hs
                    · rw [left_upd HRA.out h8 HCBB.out HRB.out.1]
                      exact HLA.out)
                  by_cases h1 : x.b = k.a
                  · have hd1 : (x.b == k.a) = true := by simpa using h1
                    clear h1
                    go_wp2_with fail
                    rw [← hwa]
                    clear hwa hen k0 k1 k2 lk
                    refine HCALL.out.mono ?_
                    rintro e w11 hl
                    obtain ⟨rfl, hh1, hh2⟩ := HNEXT.out e w11 hl
                    have HH1 := Lib.hid hh1
                    have HH2 := Lib.hid hh2
                    clear hl hh1 hh2
                    go_wp2
                    go_roundw
                    case rel => exact HH1.out
                    case measure => exact HH2.out
                  · have hd1 : (x.b == k.a) = false := by simpa using h1
                    by_cases h2 : x.b = k.c
                    · have hd2 : (x.b == k.c) = true := by simpa using h2
                      clear h1 h2
                      go_wp2_with fail
                      rw [← hwa]
                      clear hwa hen k0 k1 k2 lk
                      refine HCALL.out.mono ?_
                      rintro e w11 hl
                      obtain ⟨rfl, hh1, hh2⟩ := HNEXT.out e w11 hl
                      have HH1 := Lib.hid hh1
                      have HH2 := Lib.hid hh2
                      clear hl hh1 hh2
                      go_wp2
                      go_roundw
                      case rel => exact HH1.out
                      case measure => exact HH2.out
                    · have hd2 : (x.b == k.c) = false := by simpa using h2
                      have HH1 := Lib.hid (show ∃ (done' : List Key) (g' : Bst), RngG kP eI cb r NP f1 done' wa ∧ cc.best g' wa ∧ Visit cc.A cc.E forever f1 g' ∧ (∀ x ∈ done', ∀ v z, f1 x = some v → Succ cc.A x k z → geO (g' z) (min v u)) ∧ wa.heap[bk]? = some (.cells #[.int .i64 k.a, .int .i64 k.b, .int .i64 k.c] 85 (0, 0)) ∧ Upd (fun b => b = L.bb) wi wa from ⟨done ++ [x], g, HRA.out, HBGA.out, HVG.out, fun y hy v z hv hs => by
                        rcases List.mem_append.1 hy with h9 | h9
                        · exact HQG.out y h9 v z hv hs
                        · rw [List.mem_singleton.1 h9] at hs
                          rcases hs.2 with ⟨h10, _⟩ | ⟨h10, _⟩
                          · exact absurd h10.symm h1
                          · exact absurd h10.symm h2, HKA.out, HUA.out⟩)
                      clear h1 h2
                      go_wp2
                      rw [← hwa]
                      clear hwa hen k0 k1 k2 lk
                      go_roundw
                      case rel => exact HH1.out
                      case measure => exact HLA.out
    | true =>
      have hb3 := (ext_block (ext_trans HE0.out HE3.out) (block_lt HMID.out.blk)).trans HMID.out.blk
      have q1 := block_cell hb3 1
      have q3 := block_cell hb3 3
      have l0 := block_lt hb3
      have hlen : ∀ (d : Nat) (os : Array Obj) (ty : TypeId), (Builtin.len_ #[95] ty #[.map (some L.be)]).run Try.prog (grow (redrawn w3 d) os) = .ok (.int .i64 (N : Int)) (grow (redrawn w3 d) os) := fun d os ty => len_G Try.underlying95 (mapG_ext HNE.out (ext_trans (ext_trans HE0.out HE3.out) (ext_grow (ext_refl _) d os)))
      clear hb3
      have hgc := cell_grown
      go_wp2
      refine wp_region_free 15 [0, 1, 2, 3, 4, 5, 6, 7, 8, 9, 10, 11, 12, 13, 14] [] (by kernel_rfl) (by kernel_rfl) ?_
      repeat (refine wpLoose_step rfl (fun K hK => ?_); (try simp only [Oper.quietAt, Oper.quietUpon]); go_simp; (refine hK _ ?_; clear hK K))
      refine wpLoose_nil (wpFresh_nil (fun w4 hE4 _ => ?_))
      simp only [List.drop_succ_cons, List.drop_zero]
      have HE4 := Lib.hid (ext_trans HE0.out (ext_trans HE3.out hE4))
      have HEW4 := Lib.hid (ext_trans HE3.out hE4)
      clear q1 q3 l0 hlen hE4 hgc
      have hb4 := (ext_block HE4.out (block_lt HMID.out.blk)).trans HMID.out.blk
      have q2 := block_cell hb4 2
      have l0 := block_lt hb4
      clear hb4
      by_cases hlow : u < h
      · have hd2 : decide (u < h) = true := decide_eq_true hlow
        have HF := Lib.hid (show AddTo w0 L room h E mv b F N k u w (.returned (.int .i64 0)) w4 from by
          obtain ⟨h5, h6⟩ := HSTAY.out w4 HE4.out
          obtain ⟨h7, h8⟩ := add_old (E := E) (h := h) (room := room) (N := N) HRI.out.symm (fun c => by rw [← HVAL.out.2] at c; exact absurd c.1 (by decide)) (.inl hlow)
          unfold AddTo
          rw [h7, h8]
          exact ⟨rfl, h5, h6⟩)
        go_wp2
        refine bodyPost_ret (results_tmp rfl _ _ _) rfl ?_
        exact HF.out
      · have hd2 : decide (u < h) = false := decide_eq_false hlow
        have HLOW := Lib.hid hlow
        clear hlow
        by_cases hwas : u ≤ val
        · have hd3 : decide (u ≤ val) = true := decide_eq_true hwas
          have HF := Lib.hid (show AddTo w0 L room h E mv b F N k u w (.returned (.int .i64 0)) w4 from by
            obtain ⟨h5, h6⟩ := HSTAY.out w4 HE4.out
            obtain ⟨h7, h8⟩ := add_old (E := E) (h := h) (room := room) (N := N) HRI.out.symm (fun c => by rw [← HVAL.out.2] at c; exact absurd c.1 (by decide)) (.inr ⟨HVAL.out.2.symm, by rw [← HVAL.out.1]; exact hwas⟩)
            unfold AddTo
            rw [h7, h8]
            exact ⟨rfl, h5, h6⟩)
          go_wp2
          refine bodyPost_ret (results_tmp rfl _ _ _) rfl ?_
          exact HF.out
        · have hd3 : decide (u ≤ val) = false := decide_eq_false hwas
          have HG := Lib.hid (show addC E room N k u = 0 ∧ addG E h room N k u = setG E k u ∧ ∀ v, E k = some v → v ≤ u from by
            obtain ⟨h7, h8⟩ := add_put (E := E) (h := h) (room := room) (N := N) HRI.out.symm (fun c => by rw [← HVAL.out.2] at c; exact absurd c.1 (by decide)) (fun c => by
              rcases c with h5 | h5
              · exact HLOW.out h5
              · rw [← HVAL.out.1] at h5; exact hwas h5.2)
            exact ⟨h7, h8, fun v hv => by have h5 := HVAL.out.1; rw [hv] at h5; simp only [Option.getD_some] at h5; omega⟩)
          clear hwas
          have hk4 := (ext_block HEW4.out (block_lt HK.out)).trans HK.out
          have hb4 := (ext_block HE4.out (block_lt HMID.out.blk)).trans HMID.out.blk
          have HK4 := Lib.hid hk4
          have q3 := block_cell hb4 3
          have k0 := block_cell hk4 0
          have k1 := block_cell hk4 1
          have k2 := block_cell hk4 2
          have lk := block_lt hk4
          clear hk4 hb4
          have hgc := cell_grown
          go_wp2
          refine wp_region_mix [] [0, 1, 2, 3, 4, 5] [] [6] (by kernel_rfl) (by kernel_rfl) (fun _ _ d _ _ h => by cases d <;> exact h) ?_
          refine wpPre_nil ?_
          repeat (refine wpLoose_step rfl (fun K hK => ?_); (try simp only [Oper.quietAt, Oper.quietUpon]); go_simp; (refine hK _ ?_; clear hK K))
          refine wpLoose_nil (wpFresh_nil (fun w5 hE5 _ => ?_))
          try simp only [List.drop_succ_cons, List.drop_zero]
          have HE5 := Lib.hid hE5
          clear q2 q3 l0 k0 k1 k2 lk hE5 hgc
          refine wpSeq_of_list [6] [_] _ _ rfl ?_
          refine wpList_store_G (K := kK) (E := eI) _ rfl (.tmp 60) (.tmp 61) (.tmp 62) 95 rfl Try.underlying95 rfl (mapG_ext HNE.out (ext_trans HE4.out HE5.out)) (by unfold maxLen; omega) k rfl HKO.out u rfl HUO.out (fun w6 hP6 hg6 => ?_)
          obtain ⟨F1, hF1⟩ : ∃ F1 : Nat → Prop, F1 = fun b => F b ∧ b < w.heap.size ∨ w.heap.size < b := ⟨_, rfl⟩
          have hF1w : ∀ b, b < w.heap.size → F1 b → F b := fun b hb hf => by
            rw [hF1] at hf
            rcases hf with h5 | h5
            · exact h5.1
            · omega
          have hbw : L.bb < w.heap.size := by obtain ⟨NB, hNB⟩ := HBEST.out; exact mapG_lt hNB
          have hU6 := upd_mono (upd_grown hg6) (fp' := fun b => b = L.be) (fun i _ e => (Option.some.inj e).symm)
          have hmid6 := mid_edges (E' := setG E k u) (midH_ext (mid_own HMID.out hbw (F' := F1) (fun b hb hF => by rw [hF1]; exact .inl ⟨hF, hb⟩)) (ext_trans HE4.out HE5.out)) hU6 ⟨_, mapG_congr hP6 (fun z => rfl) rfl⟩
          have hbest6 : Best L f0 w6 := by
            obtain ⟨NB, hNB⟩ := HBEST.out
            exact ⟨NB, hmid6.2 NB f0 (mapG_ext hNB (ext_trans HE4.out HE5.out))⟩
          have hkbe : bk ≠ L.be := mapG_off (mapG_ext HNE.out HE4.out) HK4.out
          have hk6 := (hU6.block bk (ext_lt HE5.out (block_lt HK4.out)) hkbe).trans ((ext_block HE5.out (block_lt HK4.out)).trans HK4.out)
          have hUw6 : Upd F w w6 := upd_trans (upd_of_ext (ext_trans HE4.out HE5.out)) hU6 (fun i hi e => by have e' : i = L.be := e; rw [e']; exact HMID.out.own.2.1)
          have HMID6 := Lib.hid hmid6.1
          have HBEST6 := Lib.hid hbest6
          have HK6 := Lib.hid hk6
          have HUW6 := Lib.hid hUw6
          have HF1 := Lib.hid hF1
          have HF1W := Lib.hid hF1w
          have HBKW := Lib.hid (show bk = w.heap.size from HW.out.2)
          have HNBK := Lib.hid (show ¬ F1 bk from by rw [hF1, HBKW.out]; rintro (h5 | h5) <;> omega)
          have HBW := Lib.hid hbw
          clear hF1 hF1w hbw hU6 hmid6 hbest6 hkbe hk6 hUw6 hP6 hg6
          have k0 := block_cell HK6.out 0
          have k1 := block_cell HK6.out 1
          have k2 := block_cell HK6.out 2
          have lk := block_lt HK6.out
          go_simp
          go_wp2_with fail
          refine (ends_any k w6).mono ?_
          rintro e w7 ⟨rfl, hE7⟩
          have HMID7 := Lib.hid (midH_ext HMID6.out hE7)
          have HBEST7 := Lib.hid (best_ext HBEST6.out hE7)
          have HK7 := Lib.hid ((ext_block hE7 (block_lt HK6.out)).trans HK6.out)
          have HUW7 := Lib.hid (upd_trans HUW6.out (upd_of_ext (fp := fun _ => False) hE7) (fun _ _ h => h.elim))
          clear hE7 k0 k1 k2 lk
          go_wp2
          go_loopw [65] (fun y wr => ∃ j : Nat, j ≤ 2 ∧ y = .int .i64 (j : Int) ∧ (∃ S1 sub1 f1, MidH w0 L room h (setG E k u) S1 sub1 F1 wr ∧ Best L f1 wr ∧ EndF mv b E k f0 ([k.a, k.c].take j) S1 sub1 f1) ∧ wr.heap[bk]? = some (.cells #[.int .i64 k.a, .int .i64 k.b, .int .i64 k.c] 85 (0, 0)) ∧ Upd F w wr) (fun y _ => 2 - (intOf y).toNat)
          case atStart => exact ⟨0, by omega, rfl, ⟨S, subF E, f0, HMID7.out, HBEST7.out, ⟨fun n => by rw [HND.out]; simp, fun n k' _ => by simp, fun y v hv => .inl hv, leB_refl _, fun n s hn => by simp at hn⟩⟩, HK7.out, HUW7.out⟩
          case round =>
            rename World => wi
            obtain ⟨j, hj, rfl, ⟨S1, sub1, f1, hm1, hb1, he1⟩, hki, hui⟩ := hrel
            have HM1 := Lib.hid hm1
            have HB1 := Lib.hid hb1
            have HEN := Lib.hid he1
            have HKI := Lib.hid hki
            have HUI := Lib.hid hui
            clear hm1 hb1 he1 hki hui
            by_cases hlt : j < 2
            · have hji : (j : Int) < 2 := by omega
              obtain ⟨n, hnok, hix, htk⟩ : ∃ n : Int, okI n ∧ (∀ w, (Instr.index 78 (.agg #[.int .i64 k.a, .int .i64 k.c]) (.int .i64 (j : Int))).run Try.prog w = .ok (.int .i64 n) w) ∧ [k.a, k.c].take (j + 1) = [k.a, k.c].take j ++ [n] := by
                rcases (by omega : j = 0 ∨ j = 1) with rfl | rfl
                · exact ⟨k.a, HKO.out.1, fun w => index2 0 _ _ _ w (.inl ⟨rfl, rfl⟩), rfl⟩
                · exact ⟨k.c, HKO.out.2.2, fun w => index2 1 _ _ _ w (.inr ⟨rfl, rfl⟩), rfl⟩
              have HTK := Lib.hid htk
              have HNOK := Lib.hid hnok
              -- places and nodes that there may be
              have hcall : Calls Try.prog 71 #[ptr L.pf, .int .i64 n] wi (NodePost w0 L room h (setG E k u) S1 sub1 F1 mv b n f1 wi) := by
                cases hS : S1 n with
                | some c => exact node_old w0 L room h _ S1 sub1 F1 mv b n f1 wi HM1.out HB1.out hnok (by rw [hS]; rfl)
                | none =>
                  have hmem : ∀ z, (E z).isSome = true → z ∈ k :: ks := fun z hz => List.mem_cons_of_mem _ ((HC.out.mem z).2 hz)
                  have hmem' : ∀ z, (setG E k u z).isSome = true → z ∈ k :: ks := fun z hz => by
                    by_cases e : z = k
                    · rw [e]; exact List.mem_cons_self ..
                    · rw [setG_other e] at hz; exact hmem z hz
                  obtain ⟨P, hP1, hP2⟩ := places_of (setG E k u) m (k :: ks) HM.out.hm hmem' (by rw [List.length_cons, ← HN.out]; omega)
                  refine node_new w0 W0 L room h _ S1 sub1 F1 m b en mv n f1 wi ((k :: ks).flatMap fun z => [z.a, z.c]) P HM1.out HM.out HB1.out hnok hS (fun x hx => ?_) ?_ (fun y hy => ?_) hP1 (endF_none HEN.out HFIX.out.sound hS)
                  · rcases (HEN.out.nodes x).1 hx with h5 | h5
                    · obtain ⟨z, v, hz, e⟩ := h5
                      refine List.mem_flatMap.2 ⟨z, hmem z (by rw [hz]; rfl), ?_⟩
                      rcases e with e | e
                      · rw [← e]; exact List.mem_cons_self ..
                      · rw [← e]; exact List.mem_cons_of_mem _ (List.mem_singleton.2 rfl)
                    · have h6 := List.mem_of_mem_take h5
                      exact List.mem_flatMap.2 ⟨k, List.mem_cons_self .., h6⟩
                  · have : ∀ l : List Key, (l.flatMap fun z => [z.a, z.c]).length = 2 * l.length := by
                      intro l
                      induction l with
                      | nil => rfl
                      | cons z l ih => rw [List.flatMap_cons, List.length_append, ih, List.length_cons]; simp; omega
                    rw [this, List.length_cons, ← HN.out]
                    omega
                  · obtain ⟨v, hv⟩ := Option.isSome_iff_exists.1 hy
                    rw [hP2]
                    rcases HEN.out.old y v hv with h5 | ⟨h5, h6, h7, h8, h9⟩
                    · have hd := der_mono (setG_le (k := k) (u := u) HG.out.2.2) (HFIX.out.sound y v h5)
                      exact ⟨(der_nodes hd).1, (der_nodes hd).2, der_state hd HM.out.dst HM.out.lt⟩
                    · have hne : isNode (setG E k u) y.b := (node_setG' HG.out.2.2).2 (.inr (by simpa using List.mem_of_mem_take h8))
                      refine ⟨by rw [h7]; exact hne, hne, ?_⟩
                      obtain ⟨i, h10, h11⟩ := h9
                      exact ⟨i, way_lt HM.out.dst HM.out.lt h11, h10⟩
              have HCALL := Lib.hid hcall
              clear htk hnok hcall
              go_wp2_with fail
              refine HCALL.out.mono ?_
              rintro e w8 ⟨rfl, S2, sub2, f2, hm2, hb2, hnt, hu2⟩
              have hm2' : MidH w0 L room h (setG E k u) S2 sub2 F1 w8 := mid_own hm2 (by obtain ⟨NB, hNB⟩ := hb2; exact mapG_lt hNB) (fun c hc hf => by
                rcases hf with h5 | h5
                · exact h5
                · rw [HF1.out]
                  have h6 := block_lt HKI.out
                  have h7 := HBKW.out
                  exact .inr (by omega))
              have hk8 := (hu2.block bk (block_lt HKI.out) HNBK.out).trans HKI.out
              have hu8 : Upd F w w8 := upd_trans HUI.out hu2 (fun i hi hf => HF1W.out i hi hf)
              obtain ⟨sb, hsb⟩ := Option.isSome_iff_exists.1 hnt.has
              obtain ⟨NO, hO⟩ := hm2'.out
              obtain ⟨NS, hNS⟩ := hm2'.sub n sb hsb
              have hNSl : NS ≤ 100 := by
                have h5 := mapG_le (M := k :: ks) hNS (fun z hz => by
                  cases hS : S1 n with
                  | none => rw [hnt.new hS] at hz; cases hz
                  | some c =>
                    have hs' : (S1 n).isSome = true := by rw [hS]; rfl
                    rw [hnt.sub n (.inr hs'), HEN.out.sub n z hs'] at hz
                    by_cases e : z = k
                    · rw [e]; exact List.mem_cons_self ..
                    · rw [if_neg (fun c => e c.1)] at hz
                      unfold subF at hz
                      split at hz
                      · rename_i hh; exact List.mem_cons_of_mem _ ((HC.out.mem z).2 hh.1)
                      · cases hz)
                rw [List.length_cons, ← HN.out] at h5
                omega
              have HM2 := Lib.hid hm2'
              have HB2 := Lib.hid hb2
              have HNT := Lib.hid hnt
              have HK8 := Lib.hid hk8
              have HU8 := Lib.hid hu8
              have HSB := Lib.hid hsb
              have HNS := Lib.hid hNS
              have q4 := block_cell hm2'.blk 4
              have l0 := block_lt hm2'.blk
              have k0 := block_cell hk8 0
              have k1 := block_cell hk8 1
              have k2 := block_cell hk8 2
              have lk := block_lt hk8
              have hlk : ∀ (d : Nat) (os : Array Obj), (Instr.lookup 119 (.map (some L.bo)) (.int .i64 n) false).run Try.prog (grow (redrawn w8 d) os) = .ok (.map (some sb)) (grow (redrawn w8 d) os) := fun d os => by
                have h3 := look_G Try.underlying119 (mapG_ext hO (ext_grow (ext_refl _) d os)) (x := n) HNOK.out
                rw [hsb] at h3
                exact h3
              have hgc := cell_grown
              clear hm2 hb2 hnt hu2 hm2' hk8 hu8 hsb hO hNS
              go_wp2
              refine wp_region_mix [] [0, 1, 2, 3, 4, 5, 6] [] [7] (by kernel_rfl) (by kernel_rfl) (fun _ _ d _ _ h => by cases d <;> exact h) ?_
              refine wpPre_nil ?_
              repeat (refine wpLoose_step rfl (fun K hK => ?_); (try simp only [Oper.quietAt, Oper.quietUpon]); go_simp; (refine hK _ ?_; clear hK K))
              refine wpLoose_nil (wpFresh_nil (fun w9 hE9 _ => ?_))
              try simp only [List.drop_succ_cons, List.drop_zero]
              have HE9 := Lib.hid hE9
              clear q4 l0 k0 k1 k2 lk hlk hE9 hgc hix
              refine wpSeq_of_list [7] [_] _ _ rfl ?_
              refine wpList_store_G (K := kK) (E := eB) _ rfl (.tmp 76) (.tmp 77) (.const (.bool true)) 128 rfl Try.underlying128 rfl (mapG_ext HNS.out HE9.out) (by unfold maxLen; omega) k rfl HKO.out true rfl trivial (fun wa hPa hga => ?_)
              have hUa := upd_mono (upd_grown hga) (fp' := fun b => b = sb) (fun i _ e => (Option.some.inj e).symm)
              have hma := mid_sub (midH_ext HM2.out HE9.out) (by obtain ⟨NB, hNB⟩ := best_ext HB2.out HE9.out; exact ⟨NB, _, hNB⟩) HSB.out hUa ⟨_, hPa⟩
              have hba : Best L f2 wa := by
                obtain ⟨NB, hNB⟩ := best_ext HB2.out HE9.out
                exact ⟨NB, hma.2 _ _ hNB⟩
              have hksb : bk ≠ sb := mapG_off HNS.out HK8.out
              have HMA := Lib.hid hma.1
              have HBA := Lib.hid hba
              have HKA := Lib.hid ((hUa.block bk (ext_lt HE9.out (block_lt HK8.out)) hksb).trans ((ext_block HE9.out (block_lt HK8.out)).trans HK8.out))
              have HUA := Lib.hid (show Upd F w wa from upd_trans (upd_trans HU8.out (upd_of_ext (fp := fun _ => False) HE9.out) (fun _ _ h => h.elim)) hUa (fun i hi e => by
                have e' : i = sb := e
                have h5 := HM2.out.own.2.2.2.2 n sb HSB.out
                rw [e']
                exact HF1W.out sb (by omega) h5))
              clear hPa hga hUa hma hba hksb
              go_simp
              go_wp2
              go_roundw
              case rel => exact ⟨j + 1, by omega, by go_num, ⟨S2, _, f2, HMA.out, HBA.out, by rw [HTK.out]; exact end_step HEN.out HNT.out HFIX.out.sound⟩, HKA.out, HUA.out⟩
              case measure => simp [intOf]; omega
            · have hj2 : j = 2 := by omega
              subst hj2
              have hjn : ¬ ((2 : Nat) : Int) < 2 := by omega
              obtain ⟨g1, g2, g3, g4⟩ := end_final HEN.out HFIX.out HG.out.2.2
              obtain ⟨NP, hNP⟩ := HB1.out
              obtain ⟨X, hX1, hX2, hX3⟩ := mapG_keys hNP
              have hEok : ∀ z v, setG E k u z = some v → ok3 z ∧ okI v := fun z v hz => by
                obtain ⟨NE', hNE'⟩ := HM1.out.edges
                exact mapG_out hNE' hz
              obtain ⟨P, V, hG, hP1, hV1, hP2, hP3⟩ := good_of w0 L room h (setG E k u) S1 mv b m f1 (k :: ks) (X.map fun x => (f1 x).getD 0) HM.out.hm HM.out.dst (fun z hz => by
                  by_cases e : z = k
                  · rw [e]; exact List.mem_cons_self ..
                  · rw [setG_other e] at hz; exact List.mem_cons_of_mem _ ((HC.out.mem z).2 hz)) (by rw [List.length_cons, ← HN.out]; omega) g1 hEok (fun y v hv => by
                  have hd := g4 y v hv
                  exact ⟨(der_nodes hd).1, (der_nodes hd).2, der_state hd HM.out.dst HM.out.lt, List.mem_map.2 ⟨y, (hX2 y).2 (by rw [hv]; rfl), by rw [hv]; rfl⟩⟩) (fun v hv => by
                  obtain ⟨x, hx, rfl⟩ := List.mem_map.1 hv
                  obtain ⟨v, hv⟩ := Option.isSome_iff_exists.1 ((hX2 x).1 hx)
                  rw [hv]
                  exact (mapG_out hNP hv).2)
              have hlastV : ∀ x v, f1 x = some v → v ∈ V := fun x v hv => hV1 v (List.mem_map.2 ⟨x, (hX2 x).2 (by rw [hv]; rfl), by rw [hv]; rfl⟩)
              obtain ⟨cc, hcc⟩ : ∃ c : Env, c = ⟨w0, L, room, h, setG E k u, S1, autoM mv b, P, V⟩ := ⟨_, rfl⟩
              rw [← hcc] at hG
              have hMF : MachF cc W0 m b en mv := by
                rw [hcc]
                exact ⟨HM.out, rfl, hP2⟩
              have hEc : cc.E = setG E k u := by rw [hcc]
              have hAc : cc.A = autoM mv b := by rw [hcc]
              have hPc : cc.P = P := by rw [hcc]
              have hVc : cc.V = V := by rw [hcc]
              have hLc : cc.L = L := by rw [hcc]
              have hfs1 : cc.fs wi := by
                rw [hcc]
                exact mid_fs HM1.out g2 g1
              have hbest1 : cc.best f1 wi := by
                rw [hcc]
                exact ⟨⟨NP, hNP⟩, hP1⟩
              have HGO := Lib.hid hG
              have HMF := Lib.hid hMF
              have HEC := Lib.hid hEc
              have HAC := Lib.hid hAc
              have HPC := Lib.hid hPc
              have HVC := Lib.hid hVc
              have HLC := Lib.hid hLc
              have HLV := Lib.hid hlastV
              have HFS1 := Lib.hid hfs1
              have HBE1 := Lib.hid hbest1
              have HNP := Lib.hid hNP
              have HP1 := Lib.hid hP1
              have HEND := Lib.hid (And.intro g3 g4)
              have HSN1 := Lib.hid (And.intro g1 g2)
              have q5 := block_cell HM1.out.blk 5
              have l0 := block_lt HM1.out.blk
              clear g1 g2 g3 g4 hX1 hX2 hX3 hEok hG hP1 hV1 hP2 hP3 hlastV hcc hMF hEc hAc hPc hVc hLc hfs1 hbest1 hNP
              go_wp2_with fail
              refine (cloneP_any L.bb NP f1 wi HNP.out).mono ?_
              rintro e w8 ⟨rfl, hcl, hE8, _⟩
              have HCL := Lib.hid hcl
              have HE8 := Lib.hid hE8
              obtain ⟨cb, hcb⟩ : ∃ c, c = wi.heap.size := ⟨_, rfl⟩
              rw [← hcb] at HCL ⊢
              have HCB := Lib.hid hcb
              clear hcl hE8 hcb q5 l0
              go_wp2_with (first
                | (at_range; refine wpList_range_G _ rfl _ _ rfl Try.underlying120 rfl HCL.out ?_; intro w9 r hr0; have HLR := Lib.hid hr0; clear hr0; intro hrng hE9 hs9)
                | go_in)
              have HRN := Lib.hid hrng
              have HE9 := Lib.hid (ext_trans HE8.out hE9)
              have HLR' := Lib.hid (show wi.heap.size ≤ r by rw [HLR.out]; exact ext_size HE8.out)
              have HBBL := Lib.hid (show L.bb < wi.heap.size from mapG_lt HNP.out)
              clear hrng hE9 hs9
              go_simp
              go_loopw [11] (fun _ wn => ∃ (done : List Key) (g : Bst), RngG kP eI cb r NP f1 done wn ∧ cc.best g wn ∧ Visit cc.A cc.E forever f1 g ∧ (∀ x ∈ done, ∀ v z, f1 x = some v → Succ cc.A x k z → geO (g z) (min v u)) ∧ wn.heap[bk]? = some (.cells #[.int .i64 k.a, .int .i64 k.b, .int .i64 k.c] 85 (0, 0)) ∧ Upd (fun b => b = L.bb) wi wn) (fun _ wn => wn.rangeLeft cb r)
              case atStart => exact ⟨[], f1, HRN.out, env_best_ext HBE1.out HE9.out, visit_refl .., (fun x hx => by cases hx), (ext_block HE9.out (block_lt HKI.out)).trans HKI.out, upd_of_ext HE9.out⟩
              case round =>
                rename World => wn
                obtain ⟨done, g, hR, hbg, hvg, hqg, hkn, hun⟩ := hrel
                have HR := Lib.hid hR
                have HBG := Lib.hid hbg
                have HVG := Lib.hid hvg
                have HQG := Lib.hid hqg
                have HKN := Lib.hid hkn
                have HUN := Lib.hid hun
                clear hR hbg hvg hqg hkn hun
                go_wp2_with (first
                  | (at_next; refine wpList_next_G wn rfl _ rfl rfl HR.out ?_ ?_)
                  | go_in)
                · intro hall
                  have HF := Lib.hid (show AddTo w0 L room h E mv b F N k u w (.returned (.int .i64 0)) wn from by
                    obtain ⟨h5, h6, h7⟩ := HG.out
                    unfold AddTo
                    rw [h5, h6]
                    have hbn := HBG.out.1
                    rw [HLC.out] at hbn
                    have hvis := HVG.out
                    have hqq := HQG.out
                    rw [HAC.out, HEC.out] at hvis
                    rw [HAC.out] at hqq
                    refine ⟨rfl, ⟨S1, g, ?_, hbn, ?_, HSN1.out.1⟩, upd_trans HUI.out HUN.out (fun i hi e => by have e' : i = L.bb := e; rw [e']; exact HMID.out.own.2.2.2.1)⟩
                    · have h8 := mid_congr (mid_best HM1.out ⟨NP, _, HNP.out⟩ HUN.out) HSN1.out.2
                      exact mid_own h8 (by obtain ⟨NB, hNB⟩ := hbn; exact mapG_lt hNB) (fun c _ hc => by
                        rw [HF1.out] at hc
                        rcases hc with h9 | h9
                        · exact .inl h9.1
                        · exact .inr (by omega))
                    · exact add_fix HFIX.out h7 HEND.out.1 hvis.le (fun y hy => (hvis.chg y hy).1) (fun y v z hy hs => hqq y (hall y (by rw [hy]; rfl)) v z hy hs) (hvis.sound HEND.out.2))
                  clear hall
                  go_wp2
                  refine bodyPost_ret (results_tmp rfl _ _ _) rfl ?_
                  exact HF.out
                · intro x lasts w10 hfx hnx hR10 hlt10 hg10 hs10 hen
                  rw [show kP.val x = .agg #[.int .i64 x.a, .int .i64 x.b, .int .i64 x.c] from rfl, show eI.val lasts = .int .i64 lasts from rfl] at hen ⊢
                  have hU10 := upd_grown hg10
                  have hrk : r ≠ bk := fun e => (rngG_off HR.out HKN.out).2 e.symm
                  have hrb : r ≠ L.bb := fun e => by have h5 := HLR'.out; have h6 := HBBL.out; omega
                  have hk10 := (hU10.block bk (block_lt HKN.out) (fun e => hrk (Option.some.inj e))).trans HKN.out
                  obtain ⟨wa, hwa⟩ : ∃ x', x' = w10.alloc (.cells #[.int .i64 x.a, .int .i64 x.b, .int .i64 x.c] 124) := ⟨_, rfl⟩
                  have hEa : Ext w10 wa := by rw [hwa]; exact ext_alloc (ext_refl _) _
                  have hUa : Upd (fun b => b = L.bb) wi wa := upd_trans (upd_trans HUN.out hU10 (fun i hi e => absurd hi (by have h5 : r = i := Option.some.inj e; have := HLR'.out; omega))) (upd_of_ext (fp := fun _ => False) hEa) (fun _ _ h => h.elim)
                  have hbga : cc.best g wa := by
                    obtain ⟨⟨NB, h5⟩, h6⟩ := HBG.out
                    refine ⟨⟨NB, mapG_ext (mapG_upd h5 hU10 (fun e => ?_)) hEa⟩, h6⟩
                    rw [HLC.out] at e
                    exact hrb (Option.some.inj e)
                  have hfsa : cc.fs wa := env_fs_upd HFS1.out HBE1.out (by rw [HLC.out]; exact hUa)
                  have hka := (ext_block hEa (block_lt hk10)).trans hk10
                  have HRA := Lib.hid (rngG_ext hR10 hEa)
                  have HLA := Lib.hid (show wa.rangeLeft cb r < wn.rangeLeft cb r by rw [left_ext hR10 hEa]; exact hlt10)
                  have hder : Der cc.A cc.E x lasts := by rw [HAC.out, HEC.out]; exact HEND.out.2 x lasts hfx
                  have hekc : cc.E k = some u := by rw [HEC.out]; exact setG_same ..
                  have hxP : x ∈ cc.P := by rw [HPC.out]; exact HP1.out x (by rw [hfx]; rfl)
                  have hlV : lasts ∈ cc.V := by rw [HVC.out]; exact HLV.out x lasts hfx
                  have hcall := along_all cc HGO.out W0 m b en mv HMF.out _ x k lasts u g wa hfsa hbga (Nat.le_refl _) hxP hlV hekc (fun _ => hder)
                  rw [HLC.out] at hcall
                  have HCALL := Lib.hid hcall
                  have HTOP := Lib.hid (der_top hder)
                  have HFX := Lib.hid hfx
                  have HUA := Lib.hid hUa
                  have HBGA := Lib.hid hbga
                  have HKA := Lib.hid hka
                  have HRB := Lib.hid (And.intro hrb hrk)
                  have k0 := block_cell hk10 0
                  have k1 := block_cell hk10 1
                  have k2 := block_cell hk10 2
                  have lk := block_lt hk10
                  have hcbb : cb ≠ L.bb := by have h5 := HCB.out; have h6 := HBBL.out; omega
                  have HCBB := Lib.hid hcbb
                  have hbkb : bk ≠ L.bb := mapG_off HNP.out HKI.out
                  have HBKB := Lib.hid hbkb
                  clear hfx hnx hR10 hlt10 hg10 hs10 hU10 hrk hrb hk10 hEa hUa hbga hfsa hka hder hekc hxP hlV hcall hcbb hbkb
                  have HNEXT := Lib.hid (show ∀ (e : Ending) (w' : World), Left cc lasts g (fun g => ∀ z, Succ cc.A x k z → geO (g z) (min lasts u)) wa e w' → e = .returned (.tuple #[]) ∧ (∃ (done' : List Key) (g' : Bst), RngG kP eI cb r NP f1 done' w' ∧ cc.best g' w' ∧ Visit cc.A cc.E forever f1 g' ∧ (∀ x ∈ done', ∀ v z, f1 x = some v → Succ cc.A x k z → geO (g' z) (min v u)) ∧ w'.heap[bk]? = some (.cells #[.int .i64 k.a, .int .i64 k.b, .int .i64 k.c] 85 (0, 0)) ∧ Upd (fun b => b = L.bb) wi w') ∧ w'.rangeLeft cb r < wn.rangeLeft cb r from by
                    rintro e w' ⟨rfl, g', h5, h6, h7, h8⟩
                    rw [HLC.out] at h8
                    refine ⟨rfl, ⟨done ++ [x], g', rngG_upd HRA.out h8 HCBB.out HRB.out.1, h5, visit_trans HVG.out (visit_top h6 HTOP.out), fun y hy v z hv hs => ?_, (h8.block bk (block_lt HKA.out) HBKB.out).trans HKA.out, upd_trans HUA.out h8 (fun _ _ h => h)⟩, ?_⟩
                    · rcases List.mem_append.1 hy with h9 | h9
                      · exact geO_le (HQG.out y h9 v z hv hs) (h6.le z)
                      · rw [List.mem_singleton.1 h9] at hv hs
                        rw [HFX.out] at hv
                        cases hv
                        exact h7 z hs
                    · rw [left_upd HRA.out h8 HCBB.out HRB.out.1]
                      exact HLA.out)
                  by_cases h1 : x.b = k.a
                  · have hd1 : (x.b == k.a) = true := by simpa using h1
                    clear h1
                    go_wp2_with fail
                    rw [← hwa]
                    clear hwa hen k0 k1 k2 lk
                    refine HCALL.out.mono ?_
                    rintro e w11 hl
                    obtain ⟨rfl, hh1, hh2⟩ := HNEXT.out e w11 hl
                    have HH1 := Lib.hid hh1
                    have HH2 := Lib.hid hh2
                    clear hl hh1 hh2
                    go_wp2
                    go_roundw
                    case rel => exact HH1.out
                    case measure => exact HH2.out
                  · have hd1 : (x.b == k.a) = false := by simpa using h1
                    by_cases h2 : x.b = k.c
                    · have hd2 : (x.b == k.c) = true := by simpa using h2
                      clear h1 h2
                      go_wp2_with fail
                      rw [← hwa]
                      clear hwa hen k0 k1 k2 lk
                      refine HCALL.out.mono ?_
                      rintro e w11 hl
                      obtain ⟨rfl, hh1, hh2⟩ := HNEXT.out e w11 hl
                      have HH1 := Lib.hid hh1
                      have HH2 := Lib.hid hh2
                      clear hl hh1 hh2
                      go_wp2
                      go_roundw
                      case rel => exact HH1.out
                      case measure => exact HH2.out
                    · have hd2 : (x.b == k.c) = false := by simpa using h2
                      have HH1 := Lib.hid (show ∃ (done' : List Key) (g' : Bst), RngG kP eI cb r NP f1 done' wa ∧ cc.best g' wa ∧ Visit cc.A cc.E forever f1 g' ∧ (∀ x ∈ done', ∀ v z, f1 x = some v → Succ cc.A x k z → geO (g' z) (min v u)) ∧ wa.heap[bk]? = some (.cells #[.int .i64 k.a, .int .i64 k.b, .int .i64 k.c] 85 (0, 0)) ∧ Upd (fun b => b = L.bb) wi wa from ⟨done ++ [x], g, HRA.out, HBGA.out, HVG.out, fun y hy v z hv hs => by
                        rcases List.mem_append.1 hy with h9 | h9
                        · exact HQG.out y h9 v z hv hs
                        · rw [List.mem_singleton.1 h9] at hs
                          rcases hs.2 with ⟨h10, _⟩ | ⟨h10, _⟩
                          · exact absurd h10.symm h1
                          · exact absurd h10.symm h2, HKA.out, HUA.out⟩)
                      clear h1 h2
                      go_wp2
                      rw [← hwa]
                      clear hwa hen k0 k1 k2 lk
                      go_roundw
                      case rel => exact HH1.out
                      case measure => exact HLA.out
end Go.Proofs.Ytiabmdboacpmcaa
/- New, Len. -/
namespace Go.Proofs.Ytiabmdboacpmcaa
open Go Go.RowKit Go.Sort Go.WideMaps Go.Maps
set_option maxHeartbeats 4000000

def minI : Int := -9223372036854775808
/-- a path's machine -/
abbrev mvT (t : Tr) : List Mv := (gen t 1 0).moves
/-- a forest of a path: its machine was made by w0 -/
structure Fo (t : Tr) (w0 : World) (L : Loc) (room h : Int) (E : Gr3) (F : Nat → Prop) (w : World) : Prop where
  mach : ∃ W0, MachT W0 w0 L.pm t
  form : ForM w0 L room h E (mvT t) 0 F w
theorem fo_upd {t : Tr} {w0 w w' : World} {L : Loc} {room h : Int} {E : Gr3} {F fp : Nat → Prop} (H : Fo t w0 L room h E F w) (hU : Upd fp w w') (hn : ∀ b, F b ∨ b < w0.heap.size → ¬ fp b) : Fo t w0 L room h E F w' := ⟨H.mach, forM_upd H.form hU hn⟩
theorem fo_ext {t : Tr} {w0 w w' : World} {L : Loc} {room h : Int} {E : Gr3} {F : Nat → Prop} (H : Fo t w0 L room h E F w) (hE : Ext w w') : Fo t w0 L room h E F w' := ⟨H.mach, forM_ext H.form hE⟩
theorem fo_own {t : Tr} {w0 w : World} {L : Loc} {room h : Int} {E : Gr3} {F F' : Nat → Prop} (H : Fo t w0 L room h E F w) (hF : ∀ b, b < w.heap.size → F b → F' b) : Fo t w0 L room h E F' w := ⟨H.mach, forM_own H.form hF⟩
theorem fix_none (A : Auto) : FixB A (fun _ => none) (fun _ => none) := ⟨(fun x v h => by cases h), (fun n s hn => by obtain ⟨k, u, h, _⟩ := hn; cases h), (fun y v k u z h => by cases h)⟩
def NewTo (t : Tr) (room : Int) (w : World) (e : Ending) (w' : World) : Prop := ∃ w0 L, e = .returned (.tuple #[ptr L.pf, .int .i64 0]) ∧ Fo t w0 L room minI (fun _ => none) (fun b => w.heap.size ≤ b) w' ∧ Ext w w0 ∧ Ext w w'
set_option maxRecDepth 100000 in
theorem new_yes (t : Tr) (v : Value) (room : Int) (w : World) (hv : PV w t v) (hc : chk t = 0) (hr : 1 ≤ room ∧ room ≤ 10000) : Calls Try.prog 41 #[v, .int .i64 room] w (NewTo t room w) := by
  have HV := Lib.hid hv
  have CC := Lib.hid (fun w1 (hE : Ext w w1) => compile_yes t v w1 (PV_ext hv hE) hc)
  obtain ⟨kd, nn, A0, n0, c0, rfl⟩ : ∃ k n A l c, v = .agg #[.int .i64 k, .int .i64 n, .slice A l c] := by
    obtain ⟨k, n, ps⟩ := t
    obtain ⟨s, rfl, hs⟩ := hv
    obtain ⟨A, c, rfl⟩ := PS_form hs
    exact ⟨k, n, A, _, c, rfl⟩
  have HR := Lib.hid hr
  have hr1 : ¬ room < 1 := by omega
  have hr2 : ¬ (10000 : Int) < room := by omega
  have hE0 := ext_alloc (ext_refl w) (.cells #[.int .i64 kd, .int .i64 nn, .slice A0 n0 c0] 30)
  have HE0 := Lib.hid hE0
  have hmm := @run_makeMap Try.prog
  clear hv hc hr hE0
  go_enter Try.func41, Try.ntmps41
  go_wp2_with fail
  refine (CC.out _ HE0.out).mono ?_
  rintro e w2 ⟨pm, rfl, hM, hE2⟩
  have HM := Lib.hid hM
  have HE2 := Lib.hid (ext_trans HE0.out hE2)
  have HEE := Lib.hid hE2
  clear hM hE2
  have hd1 : decide (room < 1) = false := decide_eq_false (by omega)
  have hd2 : decide ((10000 : Int) < room) = false := decide_eq_false (by omega)
  have HF := Lib.hid (show ∀ w9, w9 = ((((w2.alloc (.map #[] 0)).alloc (.map #[] 0)).alloc (.map #[] 0)).alloc (.cells #[ptr pm, .int .i64 room, .int .i64 (-9223372036854775808), .map (some w2.heap.size), .map (some (w2.heap.size + 1)), .map (some (w2.heap.size + 1 + 1))] 122)) → NewTo t room w (.returned (.tuple #[ptr (w2.heap.size + 1 + 1 + 1), .int .i64 0])) w9 from fun w9 h9 => by
    have e1 : Ext w2 (w2.alloc (.map #[] 0)) := ext_alloc (ext_refl _) _
    have e2 : Ext (w2.alloc (.map #[] 0)) ((w2.alloc (.map #[] 0)).alloc (.map #[] 0)) := ext_alloc (ext_refl _) _
    have e3 : Ext ((w2.alloc (.map #[] 0)).alloc (.map #[] 0)) (((w2.alloc (.map #[] 0)).alloc (.map #[] 0)).alloc (.map #[] 0)) := ext_alloc (ext_refl _) _
    have e4 : Ext (((w2.alloc (.map #[] 0)).alloc (.map #[] 0)).alloc (.map #[] 0)) w9 := by rw [h9]; exact ext_alloc (ext_refl _) _
    have m1 := mapG_ext (mapG_made kK eI w2) (ext_trans e2 (ext_trans e3 e4))
    have m2 := mapG_ext (mapG_made kI eM (w2.alloc (.map #[] 0))) (ext_trans e3 e4)
    have m3 := mapG_ext (mapG_made kP eI ((w2.alloc (.map #[] 0)).alloc (.map #[] 0))) e4
    simp only [World.size_alloc] at m1 m2 m3
    have hsz := ext_size HE2.out
    have hb := heap_alloc_new (((w2.alloc (.map #[] 0)).alloc (.map #[] 0)).alloc (.map #[] 0)) (.cells #[ptr pm, .int .i64 room, .int .i64 (-9223372036854775808), .map (some w2.heap.size), .map (some (w2.heap.size + 1)), .map (some (w2.heap.size + 1 + 1))] 122)
    rw [← h9] at hb
    simp only [World.size_alloc] at hb
    have hall := ext_trans e1 (ext_trans e2 (ext_trans e3 e4))
    refine ⟨w2, ⟨pm, w2.heap.size + 1 + 1 + 1, w2.heap.size, w2.heap.size + 1, w2.heap.size + 1 + 1⟩, rfl, ⟨⟨_, HM.out⟩, ⟨fun _ => none, fun _ => none, ⟨hb, ⟨_, m1⟩, ⟨_, m2⟩, (fun n b h => by cases h), ⟨by simp, by simp; omega, by simp⟩, (fun n b h => by cases h), (fun n n' b h => by cases h), ⟨by simp; omega, by simp, by simp, by simp; omega, (fun n b h => by cases h)⟩, hall, ⟨by simp; omega, by simp; omega, by simp; omega, by simp; omega, (fun n b h => by cases h)⟩⟩, ⟨_, m3⟩, fix_none _, fun n => ⟨(fun h => by cases h), (fun h => by obtain ⟨k, u, h, _⟩ := h; cases h)⟩⟩⟩, HE2.out, ext_trans HE2.out hall⟩)
  go_wp2
  go_ret2
  exact HF.out _ rfl
theorem len_any (t : Tr) (w0 : World) (L : Loc) (room h : Int) (E : Gr3) (F : Nat → Prop) (ks : List Key) (w : World) (H : Fo t w0 L room h E F w) (hC : Card E ks) :
    Calls Try.prog 47 #[ptr L.pf] w fun e w' => e = .returned (.int .i64 (ks.length : Int)) ∧ w' = w := by
  obtain ⟨S, f, hM, _⟩ := H.form.ex
  obtain ⟨N, hN⟩ := hM.edges
  have HL := Lib.hid (card_len hC hN)
  have q3 := block_cell hM.blk 3
  have l0 := block_lt hM.blk
  have hlen : ∀ ty, (Builtin.len_ #[95] ty #[.map (some L.be)]).run Try.prog w = .ok (.int .i64 (N : Int)) w := fun ty => len_G Try.underlying95 hN
  clear H hC hM hN
  go_enter Try.func47, Try.ntmps47
  go_wp2
  refine bodyPost_ret (results_tmp rfl _ _ _) rfl ?_
  exact ⟨by rw [← HL.out]; rfl, rfl⟩
end Go.Proofs.Ytiabmdboacpmcaa
