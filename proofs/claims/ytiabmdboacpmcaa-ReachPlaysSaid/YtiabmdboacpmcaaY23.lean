/- Texts joined: Hp Hq Hr Hs Ht Hu Kb. -/
import Derived.Test.YtiabmdboacpmcaaY22
import Derived.ChangeKeysEq
import Derived.Test.YtiabmdboacpmcaaY17
/- Pairs. -/
namespace Go.Proofs.Ytiabmdboacpmcaa
open Go Go.RowKit Go.Sort Go.WideMaps Go.Maps
set_option maxHeartbeats 4000000

abbrev enT (t : Tr) : Nat := (gen t 1 0).last
/-- pairs of places that have come -/
def prD (f : Bst) (en : Nat) (done : List Key) : Prs := fun q => if (⟨q.a, q.b, (en : Int)⟩ : Key) ∈ done then f ⟨q.a, q.b, (en : Int)⟩ else none
theorem prD_other {f : Bst} {en : Nat} {done : List Key} {x : Key} (h : x.c ≠ (en : Int)) : prD f en (done ++ [x]) = prD f en done := by
  funext q
  unfold prD
  have : (⟨q.a, q.b, (en : Int)⟩ : Key) ≠ x := fun e => h (by rw [← e])
  simp [this]
theorem prD_same {f : Bst} {en : Nat} {done : List Key} {a b v : Int} (hv : f ⟨a, b, (en : Int)⟩ = some v) : ∀ q, prD f en (done ++ [⟨a, b, (en : Int)⟩]) q = if q = ⟨a, b⟩ then some v else prD f en done q := fun q => by
  obtain ⟨qa, qb⟩ := q
  unfold prD
  by_cases e : (⟨qa, qb⟩ : Two) = ⟨a, b⟩
  · cases e
    rw [if_pos (by simp), if_pos rfl, hv]
  · rw [if_neg e]
    have : (⟨qa, qb, (en : Int)⟩ : Key) ≠ ⟨a, b, (en : Int)⟩ := fun h => e (by cases h; rfl)
    simp [this]
theorem prD_new {f : Bst} {en : Nat} {done : List Key} {a b : Int} (h : (⟨a, b, (en : Int)⟩ : Key) ∉ done) : prD f en done ⟨a, b⟩ = none := if_neg h
theorem prD_all {f : Bst} {en : Nat} {done : List Key} (h : ∀ x, (f x).isSome = true → x ∈ done) : prD f en done = fun q => f ⟨q.a, q.b, (en : Int)⟩ := by
  funext q
  unfold prD
  split
  · rfl
  · rename_i hn
    cases hf : f ⟨q.a, q.b, (en : Int)⟩ with
    | none => rfl
    | some v => exact absurd (h _ (by rw [hf]; rfl)) hn
theorem nodupK_le : ∀ {L M : List Key}, L.Nodup → (∀ x ∈ L, x ∈ M) → L.length ≤ M.length
  | [], _, _, _ => Nat.zero_le _
  | x :: L, M, hL, h => by
    obtain ⟨h1, h2⟩ := List.nodup_cons.1 hL
    have hx := h x (List.mem_cons_self ..)
    have := nodupK_le (M := M.erase x) h2 (fun y hy => (List.mem_erase_of_ne (a := y) (b := x) (fun (e : y = x) => h1 (by rw [← e]; exact hy))).2 (h y (List.mem_cons_of_mem _ hy)))
    rw [List.length_erase_of_mem hx] at this
    have := List.length_pos_of_mem hx
    rw [List.length_cons]
    omega
def PairsTo (t : Tr) (E : Gr3) (w : World) (e : Ending) (w' : World) : Prop := ∃ qb N p, e = .returned (.map (some qb)) ∧ MapQ qb N p w' ∧ PrsOf (Words t) E p ∧ w.heap.size ≤ qb ∧ Ext w w'
set_option maxRecDepth 100000 in
theorem pairs_any (t : Tr) (w0 : World) (L : Loc) (room h : Int) (E : Gr3) (F : Nat → Prop) (ks : List Key) (w : World) (H : Fo t w0 L room h E F w) (hC : Card E ks) (hkl : ks.length ≤ 100) :
    Calls Try.prog 38 #[ptr L.pf] w (PairsTo t E w) := by
  obtain ⟨W0, hMT⟩ := H.mach
  have hMa := machT_mach hMT
  obtain ⟨S, f, hMid, hBest, hFix, -⟩ := H.form.ex
  obtain ⟨NP, hNP⟩ := hBest
  have hst : ∀ x v, f x = some v → ∃ i : Nat, i < (gen t 1 0).many ∧ x.c = (i : Int) := fun x v hv => der_state (hFix.sound x v hv) hMa.dst hMa.lt
  have hmb := hMa.hm
  have HNPB := Lib.hid (show NP ≤ 100000000 from by
    obtain ⟨P, hP1, hP2⟩ := places_of E (gen t 1 0).many ks hmb (fun k hk => (hC.mem k).2 hk) hkl
    exact Nat.le_trans (mapG_le hNP (fun x hx => by
      obtain ⟨v, hv⟩ := Option.isSome_iff_exists.1 hx
      have hd := hFix.sound x v hv
      exact (hP2 x).2 ⟨(der_nodes hd).1, (der_nodes hd).2, hst x v hv⟩)) hP1)
  obtain ⟨W, hW⟩ : ∃ W, W = w.alloc (.map #[] 0) := ⟨_, rfl⟩
  have hE0 : Ext w W := by rw [hW]; exact ext_alloc (ext_refl _) _
  obtain ⟨qb, hqb⟩ : ∃ b, b = w.heap.size := ⟨_, rfl⟩
  have hQ : MapQ qb 0 (fun _ => none) W := by rw [hW, hqb]; exact mapG_made kQ eI w
  have HQ := Lib.hid hQ
  have HE0 := Lib.hid hE0
  have HST := Lib.hid hst
  have HNP := Lib.hid (mapG_ext hNP hE0)
  have HFIX := Lib.hid (show PrsOf (Words t) E (fun p => f ⟨p.a, p.b, (enT t : Int)⟩) from prsOf_fix hFix (fun u => machT_words hMT u))
  have HBLK := Lib.hid ((ext_block hE0 (block_lt hMid.blk)).trans hMid.blk)
  have HMA := Lib.hid (show ∀ w', Ext w w' → Mach W0 L.pm (gen t 1 0).many 0 (enT t : Int) (mvT t) w' from fun w' h' => mach_ext hMa (ext_trans hMid.ext h'))
  have HW := Lib.hid (And.intro hW hqb)
  have hbq : L.bb ≠ qb := fun e => by have := mapG_lt hNP; omega
  have HBQ := Lib.hid hbq
  have q5 : (w.alloc (.map #[] 0)).cell? ⟨L.pf, 5, none⟩ = some (.map (some L.bb)) := by rw [← hW]; exact block_cell HBLK.out 5
  have l0 : L.pf < (w.alloc (.map #[] 0)).heap.size := by rw [← hW]; exact block_lt HBLK.out
  have hmm := @run_makeMap Try.prog
  obtain ⟨mm, hmmm⟩ : ∃ mm, mm = (gen t 1 0).many := ⟨_, rfl⟩
  rw [← hmmm] at HST HMA hmb
  obtain ⟨en, hen⟩ : ∃ en, en = enT t := ⟨_, rfl⟩
  rw [← hen] at HFIX HMA
  clear H hMT hMa hMid hFix hNP hst hE0 hQ hW hqb hbq hmmm hen
  go_enter Try.func38, Try.ntmps38
  go_wp2_with (first
    | (at_range; rw [← HW.out.1]; refine wpList_range_G _ rfl _ _ rfl Try.underlying120 rfl HNP.out ?_; intro w2 r hr0; have HLR := Lib.hid hr0; clear hr0; intro hrng hE2 hs2)
    | go_in)
  rw [← HW.out.2]
  have HRN := Lib.hid hrng
  have HE2 := Lib.hid hE2
  clear hrng hE2 hs2 q5 l0 hmm
  go_simp
  go_loopw [4] (fun _ wn => ∃ (done : List Key), RngG kP eI L.bb r NP f done wn ∧ (∃ N, MapQ qb N (prD f en done) wn) ∧ Upd (fun b => b = qb) W wn) (fun _ wn => wn.rangeLeft L.bb r)
  case atStart => exact ⟨[], HRN.out, ⟨0, mapG_congr (mapG_ext HQ.out HE2.out) (fun q => by simp [prD]) rfl⟩, upd_of_ext HE2.out⟩
  case round =>
    rename World => wn
    obtain ⟨done, hR, ⟨NQ, hQ⟩, hU⟩ := hrel
    have HR := Lib.hid hR
    have HQN := Lib.hid hQ
    have HU := Lib.hid hU
    clear hR hQ hU
    go_wp2_with (first
      | (at_next; refine wpList_next_G wn rfl _ rfl rfl HR.out ?_ ?_)
      | go_in)
    · intro hall
      have HF := Lib.hid (show PairsTo t E w (.returned (.map (some qb))) wn from ⟨qb, NQ, _, rfl, HQN.out, by rw [prD_all hall]; exact HFIX.out, by rw [HW.out.2]; exact Nat.le_refl _, ext_of_upd (upd_trans (upd_of_ext HE0.out) HU.out (fun i hi e => absurd hi (by have e' : i = qb := e; have := HW.out.2; omega)))⟩)
      clear hall
      go_wp2
      refine bodyPost_ret (results_tmp rfl _ _ _) rfl ?_
      exact HF.out
    · intro x lasts w3 hfx hnx hR3 hlt3 hg3 hs3 hent
      rw [show kP.val x = .agg #[.int .i64 x.a, .int .i64 x.b, .int .i64 x.c] from rfl, show eI.val lasts = .int .i64 lasts from rfl] at hent ⊢
      obtain ⟨i, him, hxi⟩ := HST.out x lasts hfx
      obtain ⟨xa, xb, xc⟩ := x
      simp only at hxi
      subst hxi
      have hU3 := upd_grown hg3
      have hrW : W.heap.size ≤ r := by rw [HLR.out]; exact Nat.le_refl _
      have hrq : r ≠ qb := fun e => by have := mapG_lt HQ.out; omega
      obtain ⟨wa, hwa⟩ : ∃ x', x' = w3.alloc (.cells #[.int .i64 xa, .int .i64 xb, .int .i64 (i : Int)] 124) := ⟨_, rfl⟩
      have hEa : Ext w3 wa := by rw [hwa]; exact ext_alloc (ext_refl _) _
      obtain ⟨bx, hbx⟩ : ∃ b, b = w3.heap.size := ⟨_, rfl⟩
      have hxa : wa.heap[bx]? = some (.cells #[.int .i64 xa, .int .i64 xb, .int .i64 (i : Int)] 124 (0, 0)) := by rw [hwa, hbx]; exact heap_alloc_new _ _
      have hUa : Upd (fun b => b = qb) W wa := upd_trans (upd_trans HU.out hU3 (fun j hj e => absurd hj (by have h5 : r = j := Option.some.inj e; omega))) (upd_of_ext (fp := fun _ => False) hEa) (fun _ _ h => h.elim)
      have HUA := Lib.hid hUa
      have HRA := Lib.hid (rngG_ext hR3 hEa)
      have HLA := Lib.hid (show wa.rangeLeft L.bb r < wn.rangeLeft L.bb r by rw [left_ext hR3 hEa]; exact hlt3)
      have HQA := Lib.hid (mapG_ext (mapG_upd HQN.out hU3 (fun e => hrq (Option.some.inj e))) hEa)
      have HXA := Lib.hid hxa
      have HRQ := Lib.hid hrq
      have HFX := Lib.hid hfx
      have HNX := Lib.hid hnx
      have HWA := Lib.hid (show Ext w wa from ext_of_upd (upd_trans (upd_of_ext HE0.out) hUa (fun j hj e => absurd hj (by have e' : j = qb := e; have := HW.out.2; omega))))
      have HBX := Lib.hid hbx
      clear hfx hnx hR3 hlt3 hg3 hs3 hU3 hrW hrq hEa hxa hUa hbx
      have hblka := (HUA.out.block L.pf (block_lt HBLK.out) (fun e => mapG_off HQ.out HBLK.out e)).trans HBLK.out
      have HBLKA := Lib.hid hblka
      clear hblka
      have up0 : ∀ w', Ext wa w' → w'.cell? ⟨L.pf, 0, none⟩ = some (ptr L.pm) := fun w' h => block_cell ((ext_block h (block_lt HBLKA.out)).trans HBLKA.out) 0
      have upl : ∀ w', Ext wa w' → L.pf < w'.heap.size := fun w' h => ext_lt h (block_lt HBLKA.out)
      have ux2 : ∀ w', Ext wa w' → w'.cell? ⟨bx, 2, none⟩ = some (.int .i64 (i : Int)) := fun w' h => block_cell ((ext_block h (block_lt HXA.out)).trans HXA.out) 2
      have uxl : ∀ w', Ext wa w' → bx < w'.heap.size := fun w' h => ext_lt h (block_lt HXA.out)
      go_wp2
      rw [← hwa]
      clear hwa hent
      rw [← HBX.out]
      refine wp_region_line ext_wR [] [(0, false, (fun v => v = ptr L.pf), fun _ _ => True), (1, false, (fun v => v = ptr L.pf), fun _ _ => True), (2, false, (fun v => v = ptr L.pf), fun _ _ => True), (3, false, (fun v => v = ptr L.pm), fun _ _ => True), (4, false, (fun v => v = (.pointer (some ⟨bx, 2, none⟩))), fun _ _ => True), (5, false, (fun v => v = (.int .i64 (i : Int))), fun _ _ => True), (6, false, (fun _ => True), fun v w0 => RdN w0 v [i]), (7, false, (fun v => v = (.bool (decide (en ∈ [i])))), fun _ _ => True)] [8] [0, 1, 2, 3, 4, 5, 6, 7] rfl (by kernel_rfl) (by kernel_rfl) (fun _ _ d _ _ h => by cases d <;> exact h) ?_
      refine wpPre_nil ?_
      refine wpGl_pure1 (fun _ _ _ h h1 w' hw hs => h1 w' hw (h _ hs)) rfl (fun w6 hE6 hS6 => ?_) (fun K hK => ?_)
      · simp only [opAtL, runsAt]
        go_simp
        all_goals (first | exact ⟨ext_refl _, rfl⟩ | exact ext_refl _ | rfl | trivial)
      go_simp
      refine hK _ ?_
      clear hK K
      refine wpGl_pure1 (fun _ _ _ h h1 w' hw hs => h1 w' hw (h _ hs)) rfl (fun w6 hE6 hS6 => ?_) (fun K hK => ?_)
      · simp only [opAtL, runsAt]
        go_simp
        all_goals (first | exact ⟨ext_refl _, rfl⟩ | exact ext_refl _ | rfl | trivial)
      go_simp
      refine hK _ ?_
      clear hK K
      refine wpGl_pure1 (fun _ _ _ h h1 w' hw hs => h1 w' hw (h _ hs)) rfl (fun w6 hE6 hS6 => ?_) (fun K hK => ?_)
      · simp only [opAtL, runsAt]
        go_simp
        all_goals (first | exact ⟨ext_refl _, rfl⟩ | exact ext_refl _ | rfl | trivial)
      go_simp
      refine hK _ ?_
      clear hK K
      refine wpGl_pure1 (fun _ _ _ h h1 w' hw hs => h1 w' hw (h _ hs)) rfl (fun w6 hE6 hS6 => ?_) (fun K hK => ?_)
      · have q0 := up0 w6 hE6
        have q1 := upl w6 hE6
        simp only [opAtL, runsAt]
        go_simp
        all_goals (first | exact ⟨ext_refl _, rfl⟩ | exact ext_refl _ | rfl | trivial)
      go_simp
      refine hK _ ?_
      clear hK K
      refine wpGl_pure1 (fun _ _ _ h h1 w' hw hs => h1 w' hw (h _ hs)) rfl (fun w6 hE6 hS6 => ?_) (fun K hK => ?_)
      · simp only [opAtL, runsAt]
        go_simp
        all_goals (first | exact ⟨ext_refl _, rfl⟩ | exact ext_refl _ | rfl | trivial)
      go_simp
      refine hK _ ?_
      clear hK K
      refine wpGl_pure1 (fun _ _ _ h h1 w' hw hs => h1 w' hw (h _ hs)) rfl (fun w6 hE6 hS6 => ?_) (fun K hK => ?_)
      · have q0 := ux2 w6 hE6
        have q1 := uxl w6 hE6
        simp only [opAtL, runsAt]
        go_simp
        all_goals (first | exact ⟨ext_refl _, rfl⟩ | exact ext_refl _ | rfl | trivial)
      go_simp
      refine hK _ ?_
      clear hK K
      refine wpGl_step1 rfl (fun v a b hE h => rdN_ext h hE) ⟨undef, trivial⟩ (fun w6 hE6 hS6 => ?_) (fun v6 _ K hK => ?_)
      · simp only [opAtL, runsAt]
        go_simp
        refine ⟨ext_alloc (ext_refl _) _, _, _, rfl, Nat.le_refl _, fun _ => ⟨w6.heap.size, 0, rfl, by simp, fun j y hy => ?_⟩⟩
        have hb6 := heap_alloc_new w6 (.cells #[.int .i64 (i : Int)] 3)
        cases j with
        | zero => cases hy; exact block_cell hb6 0
        | succ j => simp at hy
      go_simp
      refine hK _ ?_
      clear hK K
      refine wpGl_pure1 (fun _ _ _ h h1 w' hw hs => h1 w' hw (h _ hs)) rfl (fun w6 hE6 hS6 => ?_) (fun K hK => ?_)
      · have hrd := hS6 _ (List.mem_cons_self ..) (by kernel_rfl)
        simp only [opAtL, runsAt]
        go_simp
        refine (final_any W0 w6 L.pm mm 0 en (mvT t) v6 [i] (HMA.out w6 (ext_trans HWA.out hE6)) hrd (by simp)).mono ?_
        rintro e w7 ⟨rfl, rfl⟩
        first | exact ⟨rfl, ext_refl _⟩ | exact ⟨_, rfl, ext_refl _, rfl⟩ | exact ⟨by simp, ext_refl _⟩
      go_simp
      refine hK _ ?_
      clear hK K
      refine wpGl_nil (fun w6 hE6 hS6 => ?_)
      clear hS6 ux2 uxl up0 upl
      have HE6 := Lib.hid hE6
      have HX6 := Lib.hid ((ext_block hE6 (block_lt HXA.out)).trans HXA.out)
      have HR6 := Lib.hid (rngG_ext HRA.out hE6)
      have HL6 := Lib.hid (show w6.rangeLeft L.bb r < wn.rangeLeft L.bb r by rw [left_ext HRA.out hE6]; exact HLA.out)
      have HQ6 := Lib.hid (mapG_ext HQA.out hE6)
      have HU6 := Lib.hid (upd_trans HUA.out (upd_of_ext (fp := fun _ => False) hE6) (fun _ _ h => h.elim))
      clear hE6
      refine wpSeq_of_list [8] [_] _ _ rfl ?_
      by_cases hfin : en = i
      · subst hfin
        have hd : decide (en ∈ [en]) = true := by simp
        have x0 := block_cell HX6.out 0
        have x1 := block_cell HX6.out 1
        have lx := block_lt HX6.out
        obtain ⟨wc, hwc⟩ : ∃ wc, wc = w6.alloc (.cells #[.int .i64 xa, .int .i64 xb] 68) := ⟨_, rfl⟩
        have hEc : Ext w6 wc := by rw [hwc]; exact ext_alloc (ext_refl _) _
        have hok : ok2 ⟨xa, xb⟩ := by
          have h5 := (mapG_out (rngG_map HR6.out) HFX.out).1
          exact ⟨h5.1, h5.2.1⟩
        have hlok : okI lasts := (mapG_out (rngG_map HR6.out) HFX.out).2
        have hlk : (Instr.lookup 65 (.map (some qb)) (.agg #[.int .i64 xa, .int .i64 xb]) true).run Try.prog (w6.alloc (.cells #[.int .i64 xa, .int .i64 xb] 68)) = .ok (.tuple #[.int .i64 0, .bool false]) (w6.alloc (.cells #[.int .i64 xa, .int .i64 xb] 68)) := by
          have h3 := look2_G Try.underlying65 (mapG_ext HQ6.out hEc) (x := ⟨xa, xb⟩) hok
          rw [prD_new HNX.out, hwc] at h3
          exact h3
        have hNb : NQ ≤ NP := by
          have hcard := mapG_keys HQ6.out
          obtain ⟨X, hX1, hX2, hX3⟩ := hcard
          obtain ⟨Y, hY1, hY2, hY3⟩ := mapG_keys (rngG_map HR6.out)
          rw [← hX3, ← hY3]
          have h8 : (X.map fun q : Two => (⟨q.a, q.b, (en : Int)⟩ : Key)).Nodup := List.pairwise_map.2 (hX1.imp (fun {p q} hne e => hne (by
            obtain ⟨p1, p2⟩ := p
            obtain ⟨q1, q2⟩ := q
            simp only [Key.mk.injEq] at e
            rw [e.1, e.2.1])))
          have h9 := nodupK_le h8 (M := Y) (fun z hz => by
            obtain ⟨q, hq, rfl⟩ := List.mem_map.1 hz
            rw [hY2]
            have h10 := (hX2 q).1 hq
            unfold prD at h10
            split at h10
            · exact h10
            · cases h10)
          rw [List.length_map] at h9
          exact h9
        obtain ⟨w7, hup, hQ7, hg7⟩ := store_G (t := 65) Try.underlying65 (mapG_ext HQ6.out hEc) (by have := HNPB.out; unfold maxLen; omega) (x := ⟨xa, xb⟩) hok (c := lasts) hlok
        have hup' : (Instr.mapUpdate 65 (.map (some qb)) (.agg #[.int .i64 xa, .int .i64 xb]) (.int .i64 lasts)).run Try.prog (w6.alloc (.cells #[.int .i64 xa, .int .i64 xb] 68)) = .ok () w7 := by
          rw [← hwc]
          exact hup
        have hU7 := upd_mono (upd_grown hg7) (fp' := fun b => b = qb) (fun j _ e => (Option.some.inj e).symm)
        have hUU := upd_trans (upd_of_ext (fp := fun b => b = qb) hEc) hU7 (fun _ _ h => h)
        have HH1 := Lib.hid (show RngG kP eI L.bb r NP f (done ++ [⟨xa, xb, (en : Int)⟩]) w7 from rngG_upd HR6.out hUU HBQ.out HRQ.out)
        have HH2 := Lib.hid (show ∃ N, MapQ qb N (prD f en (done ++ [⟨xa, xb, (en : Int)⟩])) w7 from ⟨_, mapG_congr hQ7 (fun q => by rw [prD_same HFX.out]) rfl⟩)
        have HH3 := Lib.hid (upd_trans HU6.out hUU (fun _ _ h => h))
        have HH4 := Lib.hid (show w7.rangeLeft L.bb r < wn.rangeLeft L.bb r by rw [left_upd HR6.out hUU HBQ.out HRQ.out]; exact HL6.out)
        clear hwc hEc hok hlok hNb hup hQ7 hg7 hU7 hUU
        go_wp2
        go_roundw
        case rel => exact ⟨_, HH1.out, HH2.out, HH3.out⟩
        case measure => exact HH4.out
      · have hd : decide (en ∈ [i]) = false := by simpa using hfin
        have hd' : decide (en = i) = false := by simpa using hfin
        have hd2 : (en == i) = false := by simpa using hfin
        have HH2 := Lib.hid (show ∃ N, MapQ qb N (prD f en (done ++ [⟨xa, xb, (i : Int)⟩])) w6 from ⟨NQ, by rw [prD_other (by simp only; omega)]; exact HQ6.out⟩)
        clear hfin
        go_wp2
        go_roundw
        case rel => exact ⟨_, HR6.out, HH2.out, HU6.out⟩
        case measure => exact HL6.out
end Go.Proofs.Ytiabmdboacpmcaa
/- Rows of edges; the document's Add. -/
namespace Go.Proofs.Ytiabmdboacpmcaa
open Go Go.RowKit Go.Sort Go.WideMaps Go.Maps
set_option maxHeartbeats 4000000

/-- an edge of the document -/
abbrev Ed := Key × Int
def elDr : El Ed := ⟨fun p => [.int .i64 p.1.a, .int .i64 p.1.b, .int .i64 p.1.c, .int .i64 p.2], 4, 75, by decide, fun _ => rfl, fun x u hu => by
  rcases List.mem_cons.1 hu with rfl | hu
  · rfl
  · rcases List.mem_cons.1 hu with rfl | hu
    · rfl
    · rcases List.mem_cons.1 hu with rfl | hu
      · rfl
      · rw [List.mem_singleton.1 hu]; rfl⟩
noncomputable def tpDr : Tp Try.prog 62 elDr := ⟨(Try.prog.info? 75).get (by kernel_rfl), .agg #[.int .i64 0, .int .i64 0, .int .i64 0, .int .i64 0], 32, Try.underlying62, by kernel_rfl, by kernel_rfl, by kernel_rfl, by kernel_rfl, rfl, by decide⟩
def addL : List Ed → Key → Int → List Ed
  | [], k, u => [(k, u)]
  | e :: L, k, u => if e.1 = k then (e.1, if e.2 < u then u else e.2) :: L else e :: addL L k u
theorem addL_none : ∀ {L : List Ed} {k : Key} {u : Int}, (∀ e ∈ L, e.1 ≠ k) → addL L k u = L ++ [(k, u)]
  | [], _, _, _ => rfl
  | e :: L, k, u, h => by
    rw [addL, if_neg (h e (List.mem_cons_self ..)), addL_none (fun x hx => h x (List.mem_cons_of_mem _ hx))]
    rfl
theorem addL_at : ∀ {L : List Ed} {k : Key} {u : Int} {i : Nat} {e : Ed}, L[i]? = some e → e.1 = k → (∀ (j : Nat) (x : Ed), j < i → L[j]? = some x → x.1 ≠ k) → addL L k u = L.set i (e.1, if e.2 < u then u else e.2)
  | [], _, _, _, _, h, _, _ => by simp at h
  | x :: L, k, u, 0, e, h, he, _ => by
    simp at h
    subst h
    rw [addL, if_pos he]
    rfl
  | x :: L, k, u, i + 1, e, h, he, hb => by
    rw [addL, if_neg (hb 0 x (by omega) rfl), addL_at (i := i) (by simpa using h) he (fun j y hj hy => hb (j + 1) y (by omega) (by simpa using hy))]
    rfl
/-- as a map -/
def grOf (L : List Ed) : Gr3 := fun k => (L.find? fun e => decide (e.1 = k)).map (·.2)
def KeysNd (L : List Ed) : Prop := (L.map (·.1)).Nodup
theorem grOf_nil : grOf [] = fun _ => none := rfl
theorem grOf_cons (e : Ed) (L : List Ed) (k : Key) : grOf (e :: L) k = if e.1 = k then some e.2 else grOf L k := by
  unfold grOf
  rw [List.find?_cons]
  by_cases h : e.1 = k
  · simp [h]
  · simp [h]
theorem grOf_some : ∀ {L : List Ed} {k : Key} {u : Int}, KeysNd L → (grOf L k = some u ↔ (k, u) ∈ L)
  | [], k, u, _ => by simp [grOf]
  | e :: L, k, u, h => by
    have h' : KeysNd L := (List.nodup_cons.1 h).2
    have hno := (List.nodup_cons.1 h).1
    rw [grOf_cons]
    by_cases he : e.1 = k
    · rw [if_pos he]
      constructor
      · intro e1
        cases e1
        rw [← he]
        exact List.mem_cons_self ..
      · intro hm
        rcases List.mem_cons.1 hm with h1 | h1
        · rw [← h1]
        · exact absurd (List.mem_map.2 ⟨_, h1, he.symm⟩) hno
    · rw [if_neg he, grOf_some h']
      constructor
      · exact fun h1 => List.mem_cons_of_mem _ h1
      · intro hm
        rcases List.mem_cons.1 hm with h1 | h1
        · rw [← h1] at he; exact absurd rfl he
        · exact h1
theorem grOf_isSome : ∀ {L : List Ed} {k : Key}, (grOf L k).isSome = true ↔ k ∈ L.map (·.1)
  | [], k => by simp [grOf]
  | e :: L, k => by
    rw [grOf_cons]
    by_cases he : e.1 = k
    · simp [he]
    · rw [if_neg he, grOf_isSome]
      simp [Ne.symm he]
theorem card_of {L : List Ed} (h : KeysNd L) : Card (grOf L) (L.map (·.1)) := ⟨h, fun _k => grOf_isSome.symm⟩
theorem addL_keys : ∀ {L : List Ed} {k : Key} {u : Int}, (addL L k u).map (·.1) = if k ∈ L.map (·.1) then L.map (·.1) else L.map (·.1) ++ [k]
  | [], k, u => by simp [addL]
  | e :: L, k, u => by
    rw [addL]
    by_cases he : e.1 = k
    · simp [he]
    · rw [if_neg he, List.map_cons, addL_keys]
      by_cases hm : k ∈ L.map (·.1)
      · rw [if_pos hm, if_pos (by simp [hm])]
        rfl
      · rw [if_neg hm, if_neg (by simp only [List.map_cons, List.mem_cons, not_or]; exact ⟨fun c => he c.symm, hm⟩)]
        rfl
theorem addL_nd {L : List Ed} {k : Key} {u : Int} (h : KeysNd L) : KeysNd (addL L k u) := by
  unfold KeysNd
  rw [addL_keys]
  split
  · exact h
  · rename_i hm
    exact List.nodup_append.2 ⟨h, by simp, fun a ha b hb => by rw [List.mem_singleton.1 hb]; exact fun e => hm (e ▸ ha)⟩
theorem addL_len (L : List Ed) (k : Key) (u : Int) : (addL L k u).length ≤ L.length + 1 := by
  have h := congrArg List.length (addL_keys (L := L) (k := k) (u := u))
  rw [List.length_map] at h
  rw [h]
  split <;> simp
theorem grOf_add : ∀ (L : List Ed) (k : Key) (u : Int), grOf (addL L k u) = match grOf L k with | some v => if v < u then setG (grOf L) k u else grOf L | none => setG (grOf L) k u
  | [], k, u => by
    funext x
    simp only [addL, grOf_nil, grOf_cons, setG]
    by_cases h : x = k
    · subst h; simp
    · rw [if_neg (fun e => h e.symm), if_neg h]
  | e :: L, k, u => by
    have ih := grOf_add L k u
    funext x
    rw [addL]
    by_cases he : e.1 = k
    · rw [if_pos he, grOf_cons, grOf_cons (k := k), if_pos he]
      simp only
      by_cases hx : e.1 = x
      · rw [if_pos hx]
        split
        · rw [← hx, he, setG_same]
        · rw [grOf_cons, if_pos hx]
      · rw [if_neg hx]
        have hxk : x ≠ k := fun c => hx (by rw [he, c])
        split
        · rw [setG_other hxk, grOf_cons, if_neg hx]
        · rw [grOf_cons, if_neg hx]
    · rw [if_neg he, grOf_cons, grOf_cons (k := k), if_neg he, ih]
      by_cases hx : e.1 = x
      · have hxk : x ≠ k := fun c => he (by rw [hx, c])
        rw [if_pos hx]
        cases grOf L k with
        | none => simp only; rw [setG_other hxk, grOf_cons, if_pos hx]
        | some v =>
          simp only
          split
          · rw [setG_other hxk, grOf_cons, if_pos hx]
          · rw [grOf_cons, if_pos hx]
      · rw [if_neg hx]
        cases grOf L k with
        | none =>
          simp only [setG]
          split
          · rfl
          · rw [grOf_cons, if_neg hx]
        | some v =>
          simp only
          split
          · simp only [setG]
            split
            · rfl
            · rw [grOf_cons, if_neg hx]
          · rw [grOf_cons, if_neg hx]
/-- where an edge may be, and room is, the program's Add is the document's -/
theorem add_same {L : List Ed} {k : Key} {u h room : Int} {N : Nat} (hr : rightB k u = true) (hroom : (N : Int) < room) (hh : h ≤ u) : addG (grOf L) h room N k u = grOf (addL L k u) ∧ addC (grOf L) room N k u = 0 := by
  rw [grOf_add]
  cases hk : grOf L k with
  | none =>
    obtain ⟨h1, h2⟩ := add_put (E := grOf L) (h := h) (room := room) (N := N) hr (by rintro ⟨_, h5⟩; omega) (by rintro (h5 | ⟨h5, _⟩); omega; rw [hk] at h5; cases h5)
    exact ⟨h2, h1⟩
  | some v =>
    simp only
    by_cases hv : v < u
    · rw [if_pos hv]
      obtain ⟨h1, h2⟩ := add_put (E := grOf L) (h := h) (room := room) (N := N) hr (by rintro ⟨_, h5⟩; omega) (by
        rintro (h5 | ⟨_, h5⟩)
        · omega
        · rw [hk] at h5; simp only [Option.getD_some] at h5; omega)
      exact ⟨h2, h1⟩
    · rw [if_neg hv]
      obtain ⟨h1, h2⟩ := add_old (E := grOf L) (h := h) (room := room) (N := N) hr (by rintro ⟨_, h5⟩; omega) (.inr ⟨by rw [hk]; rfl, by rw [hk]; simp only [Option.getD_some]; omega⟩)
      exact ⟨h2, h1⟩
end Go.Proofs.Ytiabmdboacpmcaa
/- The document's Add. -/
namespace Go.Proofs.Ytiabmdboacpmcaa
open Go Go.RowKit Go.Sort Go.WideMaps Go.Maps
set_option maxHeartbeats 4000000

theorem flatE_set {α : Type} (E : El α) : ∀ {L : List α} {i j : Nat} {x x' : α} {u : Value}, L[i]? = some x → j < E.size → E.enc x' = (E.enc x).set j u → flatE E (L.set i x') = (flatE E L).set (i * E.size + j) u
  | [], _, _, _, _, _, h, _, _ => by simp at h
  | y :: L, 0, j, x, x', u, h, hj, he => by
    simp at h
    subst h
    rw [List.set_cons_zero, flatE_cons, flatE_cons, he, Nat.zero_mul, Nat.zero_add, List.set_append_left _ _ (by rw [E.hl]; exact hj)]
  | y :: L, i + 1, j, x, x', u, h, hj, he => by
    rw [List.set_cons_succ, flatE_cons, flatE_cons, flatE_set E (by simpa using h) hj he, List.set_append_right _ _ (by rw [E.hl, Nat.add_mul]; omega), E.hl]
    congr 2
    rw [Nat.add_mul]
    omega
theorem rowE_set {α : Type} {E : El α} {w : World} {g n c : Nat} {L : List α} (h : rowE E w (.slice (some ⟨g, 0, none⟩) n c) L) {i j : Nat} {x x' : α} {u : Value} (hx : L[i]? = some x) (hj : j < E.size) (he : E.enc x' = (E.enc x).set j u) : rowE E (w.setCell ⟨g, i * E.size + j, none⟩ u) (.slice (some ⟨g, 0, none⟩) n c) (L.set i x') := by
  have hi := (List.getElem?_eq_some_iff.1 hx).1
  rcases h with ⟨h0, h1 | ⟨g', cap, cur, h1, h2, h3, h4, h5, h6, h7⟩⟩
  · cases h1.1
  · simp only [Value.slice.injEq, Option.some.injEq, Addr.mk.injEq, and_true] at h1
    obtain ⟨rfl, rfl, rfl⟩ := h1
    refine ⟨by rw [flatE_length], .inr ⟨g, c, cur.setIfInBounds (i * E.size + j) u, by simp, h2, heap_setCell_at h3, by simpa using h4, h5, by simpa using h6, ?_⟩⟩
    rw [flatE_set E hx hj he, ← h7, List.length_set, Array.toList_setIfInBounds, List.take_set]
theorem partA0 (a b c : Value) (w : World) : (part 3 #[a, b, c] 0).run Try.prog w = .ok a w := by kernel_rfl
theorem partA1 (a b c : Value) (w : World) : (part 3 #[a, b, c] 1).run Try.prog w = .ok b w := by kernel_rfl
theorem partA2 (a b c : Value) (w : World) : (part 3 #[a, b, c] 2).run Try.prog w = .ok c w := by kernel_rfl
theorem eqIt3 (d : Nat) (x y : Key) (w : World) : (Op.eqItems (d + 1) 3 1 #[.int .i64 x.a, .int .i64 x.b, .int .i64 x.c] #[.int .i64 y.a, .int .i64 y.b, .int .i64 y.c] [0, 1, 2]).run Try.prog w = .ok (decide (x = y)) w := by
  have hu : Try.prog.underlying 3 = some (.int .i64) := by kernel_rfl
  have he : ∀ (a b : Int) (w : World), (Op.equalIn (d + 1) 3 (.int .i64 a) (.int .i64 b)).run Try.prog w = .ok (a == b) w := fun a b w => run_equalIn_int (P := Try.prog) w d 3 .i64 .i64 a b hu
  obtain ⟨a, b, c⟩ := x
  obtain ⟨a', b', c'⟩ := y
  simp only [Op.eqItems, Sem.run_bind, Nat.mul_one, partA0, he, Result.andThen_ok]
  by_cases h1 : a = a'
  · by_cases h2 : b = b'
    · by_cases h3 : c = c' <;> simp [h1, h2, h3, partA1, partA2, he]
    · simp [h1, h2, partA1, he]
  · simp [h1]
theorem eqA3 (x y : Key) (w : World) : (Op.equalIn 10000 73 (.agg #[.int .i64 x.a, .int .i64 x.b, .int .i64 x.c]) (.agg #[.int .i64 y.a, .int .i64 y.b, .int .i64 y.c])).run Try.prog w = .ok (decide (x = y)) w := by
  obtain ⟨i, hi⟩ := Option.isSome_iff_exists.1 (show (Try.prog.info? 3).isSome = true by kernel_rfl)
  rw [show (10000 : Nat) = 9999 + 1 from rfl, run_equalIn_array w 9999 _ _ (show Try.prog.underlying 73 = some (.array 3 3) by kernel_rfl) hi, show Try.prog.cellsOf 3 = 1 by kernel_rfl]
  exact eqIt3 9998 x y w
def RowTo (L : List Ed) (w : World) (e : Ending) (w' : World) : Prop := ∃ v', e = .returned v' ∧ rowF elDr w.heap.size L v' w' ∧ Ext w w'
set_option maxRecDepth 100000 in
theorem refadd_any (v : Value) (L : List Ed) (k : Key) (u : Int) (w : World) (h : rowE elDr w v L) (hl : L.length ≤ 100000) : Calls Try.prog 49 #[v, k3 k, .int .i64 u] w (RowTo (addL L k u) w) := by
  obtain ⟨W, hW⟩ : ∃ W, W = w.alloc (.cells #[.int .i64 k.a, .int .i64 k.b, .int .i64 k.c] 73) := ⟨_, rfl⟩
  have hE0 : Ext w W := by rw [hW]; exact ext_alloc (ext_refl _) _
  obtain ⟨bk, hbk⟩ : ∃ b, b = w.heap.size := ⟨_, rfl⟩
  have hK : W.heap[bk]? = some (.cells #[.int .i64 k.a, .int .i64 k.b, .int .i64 k.c] 73 (0, 0)) := by rw [hW, hbk]; exact heap_alloc_new _ _
  have HK := Lib.hid hK
  have HE0 := Lib.hid hE0
  have HW := Lib.hid (And.intro hW hbk)
  have HR := Lib.hid (rowE_ext h hE0)
  have HRW := Lib.hid h
  obtain ⟨n, hn⟩ : ∃ n, n = L.length := ⟨_, rfl⟩
  have HN := Lib.hid hn
  obtain ⟨A0, c0, hv⟩ := rowE_form h
  rw [← hn] at hv hl
  subst hv
  clear hW hbk hK hE0 h hn
  simp only [k3]
  go_enter Try.func49, Try.ntmps49
  go_wp2_with (at_builtin; refine halt_here ?_)
  refine go_on ?_
  obtain ⟨W1, hW1⟩ : ∃ W1, W1 = (w.alloc (.cells #[.int .i64 k.a, .int .i64 k.b, .int .i64 k.c] 73)).alloc (.cells #[] 75) := ⟨_, rfl⟩
  have hE1 : Ext W W1 := by rw [hW1, HW.out.1]; exact ext_alloc (ext_refl _) _
  have hnone : rowF elDr w.heap.size [] (.slice (some ⟨w.heap.size + 1, 0, none⟩) 0 0) W1 := noneF_row ⟨w.heap.size + 1, rfl, by omega, by rw [hW1]; exact (heap_2r w _ _).2⟩
  rw [← hW1]
  refine wpList_append rfl (.tmp 9) (.tmp 10) rfl (.slice (some ⟨w.heap.size + 1, 0, none⟩) 0 0) (.slice A0 n c0) rfl rfl (fun v' w' => rowF elDr w.heap.size ([] ++ L) v' w' ∧ W1.grownBy w' (Value.slice (some ⟨w.heap.size + 1, 0, none⟩) 0 0).ownBlock) (append_onto tpDr _ w.heap.size _ _ [] L W1 hnone (srcOf_row (rowE_ext HR.out hE1)) (by rw [List.length_nil, ← HN.out]; omega) (by have := ext_size (ext_trans HE0.out hE1); omega)) ?_
  rintro v2 w2 ⟨hr2, hg2⟩
  rw [List.nil_append] at hr2
  have hU2 : Upd (fun b => b = w.heap.size + 1) W1 w2 := upd_mono (upd_grown hg2) (fun i _ e => (Option.some.inj e).symm)
  have hk2 := (hU2.block bk (ext_lt hE1 (block_lt HK.out)) (fun e => by have e' : bk = w.heap.size + 1 := e; have := HW.out.2; omega)).trans ((ext_block hE1 (block_lt HK.out)).trans HK.out)
  have HK2 := Lib.hid hk2
  have HR2 := Lib.hid hr2
  have HE2 := Lib.hid (show Ext w w2 from ext_of_upd (upd_trans (upd_of_ext (ext_trans HE0.out hE1)) hU2 (fun i hi e => absurd hi (by have e' : i = w.heap.size + 1 := e; omega))))
  obtain ⟨A2, c2, hv2⟩ := rowE_form hr2.1
  rw [← HN.out] at hv2
  subst hv2
  clear hW1 hE1 hnone hr2 hg2 hU2 hk2
  rw [← HW.out.2]
  go_simp
  go_wp2
  go_loopw [14] (fun y wr => ∃ j : Nat, j ≤ n ∧ y = .int .i64 (j : Int) ∧ Ext w2 wr ∧ ∀ (i : Nat) (x : Ed), i < j → L[i]? = some x → x.1 ≠ k) (fun y _ => n - (intOf y).toNat)
  case atStart => exact ⟨0, by omega, rfl, ext_refl _, fun i x hi => by omega⟩
  case round =>
    rename World => wi
    obtain ⟨j, hj, rfl, hE, hno⟩ := hrel
    have HE := Lib.hid hE
    have HNO := Lib.hid hno
    have hki := (ext_block hE (block_lt HK2.out)).trans HK2.out
    have HRI := Lib.hid (rowF_ext _ _ _ hE HR2.out)
    have HKI := Lib.hid hki
    clear hE hno
    by_cases hlt : j < n
    · have hji : (j : Int) < (n : Int) := by omega
      have hj0 : (0 : Int) ≤ (j : Int) := by omega
      obtain ⟨x, hx⟩ : ∃ x, L[j]? = some x := ⟨_, List.getElem?_eq_getElem (by rw [← HN.out]; exact hlt)⟩
      obtain ⟨g, hg, lg⟩ := rowE_some HRI.out.1 (fun e => by rw [e] at hx; simp at hx)
      subst hg
      have e0 : wi.cell? ⟨g, j * 4, none⟩ = some (.int .i64 x.1.a) := rowE_cell HRI.out.1 hx (j := 0) (u := .int .i64 x.1.a) rfl
      have e1 : wi.cell? ⟨g, j * 4 + 1, none⟩ = some (.int .i64 x.1.b) := rowE_cell HRI.out.1 hx (j := 1) (u := .int .i64 x.1.b) rfl
      have e2 : wi.cell? ⟨g, j * 4 + 2, none⟩ = some (.int .i64 x.1.c) := rowE_cell HRI.out.1 hx (j := 2) (u := .int .i64 x.1.c) rfl
      have k0 := block_cell hki 0
      have k1 := block_cell hki 1
      have k2 := block_cell hki 2
      have lk := block_lt hki
      have heq : ∀ w : World, (Op.equalIn 10000 73 (.agg #[.int .i64 x.1.a, .int .i64 x.1.b, .int .i64 x.1.c]) (.agg #[.int .i64 k.a, .int .i64 k.b, .int .i64 k.c])).run Try.prog w = .ok (decide (x.1 = k)) w := fun w => eqA3 x.1 k w
      have HX := Lib.hid hx
      have hgc := cell_grown
      clear hx hki
      obtain ⟨eqb, heqb⟩ : ∃ b, b = decide (x.1 = k) := ⟨_, rfl⟩
      rw [← heqb] at heq
      have HEQ := Lib.hid heqb
      clear heqb
      go_wp2
      refine wp_region_free 7 [0, 1, 2, 3, 4, 5, 6] [] (by kernel_rfl) (by kernel_rfl) ?_
      repeat (refine wpLoose_step rfl (fun K hK => ?_); (try simp only [Oper.quietAt, Oper.quietUpon]); go_simp; (refine hK _ ?_; clear hK K))
      refine wpLoose_nil (wpFresh_nil (fun w3 hE3 _ => ?_))
      simp only [List.drop_succ_cons, List.drop_zero]
      have HE3 := Lib.hid hE3
      have HR3 := Lib.hid (rowF_ext _ _ _ hE3 HRI.out)
      clear hE3 e0 e1 e2 k0 k1 k2 lk heq hgc
      cases eqb with
      | false =>
        have HREL := Lib.hid (show Ext w2 w3 ∧ ∀ (i : Nat) (y : Ed), i < j + 1 → L[i]? = some y → y.1 ≠ k from ⟨ext_trans HE.out HE3.out, fun i y hi hy => by
          rcases Nat.lt_or_eq_of_le (Nat.le_of_lt_succ hi) with h5 | h5
          · exact HNO.out i y h5 hy
          · subst h5
            rw [HX.out] at hy
            cases hy
            have := HEQ.out
            simpa using this.symm⟩)
        go_wp2
        go_roundw
        case rel => exact ⟨j + 1, by omega, by go_num, HREL.out.1, HREL.out.2⟩
        case measure => simp [intOf]; omega
      | true =>
        have hxk : x.1 = k := by have := HEQ.out; simpa using this.symm
        have HAT := Lib.hid (addL_at (u := u) HX.out hxk HNO.out)
        have e3 : w3.cell? ⟨g, j * 4 + 1 + 1 + 1, none⟩ = some (.int .i64 x.2) := rowE_cell HR3.out.1 HX.out (j := 3) (u := .int .i64 x.2) rfl
        have e3' : w3.cell? ⟨g, j * 4 + 3, none⟩ = some (.int .i64 x.2) := e3
        obtain ⟨_, cur3, hc3⟩ := rowE_block HR3.out.1 (g := g) rfl
        have lg3 := block_lt hc3
        have f3 := block_frozen hc3 (j * 4 + 3)
        clear hc3 hxk
        by_cases hup : x.2 < u
        · have HF := Lib.hid (show RowTo (addL L k u) w (.returned (.slice (some ⟨g, 0, none⟩) n c2)) (w3.setCell ⟨g, j * 4 + 3, none⟩ (.int .i64 u)) from by
            refine ⟨_, rfl, ⟨?_, HR3.out.2⟩, ext_of_upd (upd_trans (upd_of_ext (ext_trans HE2.out (ext_trans HE.out HE3.out))) (upd_setCell (a := ⟨g, j * 4 + 3, none⟩) _) (fun i hi e => absurd hi (by
              have e' : i = g := e
              have := HR3.out.2 g rfl
              omega)))⟩
            rw [HAT.out, if_pos hup]
            exact rowE_set HR3.out.1 HX.out (j := 3) (by decide) rfl)
          go_wp2
          refine bodyPost_ret (results_tmp rfl _ _ _) rfl ?_
          exact HF.out
        · have HF := Lib.hid (show RowTo (addL L k u) w (.returned (.slice (some ⟨g, 0, none⟩) n c2)) w3 from by
            refine ⟨_, rfl, ⟨?_, HR3.out.2⟩, ext_trans HE2.out (ext_trans HE.out HE3.out)⟩
            rw [HAT.out, if_neg hup]
            have : L.set j (x.1, x.2) = L := by
              obtain ⟨x1, x2⟩ := x
              have h5 := List.getElem?_eq_some_iff.1 HX.out
              rw [← h5.2]
              exact List.set_getElem_self _
            rw [this]
            exact HR3.out.1)
          go_wp2
          refine bodyPost_ret (results_tmp rfl _ _ _) rfl ?_
          exact HF.out
    · have h5 : j = n := by omega
      subst h5
      have HADD := Lib.hid (show addL L k u = L ++ [(k, u)] from addL_none (fun e he => by
        obtain ⟨i, hi⟩ := List.getElem?_of_mem he
        exact HNO.out i e (by rw [HN.out]; exact (List.getElem?_eq_some_iff.1 hi).1) hi))
      have k0 := block_cell hki 0
      have k1 := block_cell hki 1
      have k2 := block_cell hki 2
      have lk := block_lt hki
      clear hki
      go_wp2_with (at_builtin; refine halt_here ?_)
      refine go_on ?_
      obtain ⟨w4, hw4⟩ : ∃ w4, w4 = wi.alloc (.cells #[.int .i64 k.a, .int .i64 k.b, .int .i64 k.c, .int .i64 u] 75) := ⟨_, rfl⟩
      have hE4 : Ext wi w4 := by rw [hw4]; exact ext_alloc (ext_refl _) _
      have hone : oneF elDr wi.heap.size (k, u) (.slice (some ⟨wi.heap.size, 0, none⟩) 1 1) w4 := ⟨wi.heap.size, rfl, Nat.le_refl _, by rw [hw4]; exact heap_alloc_new wi (.cells #[.int .i64 k.a, .int .i64 k.b, .int .i64 k.c, .int .i64 u] 75)⟩
      rw [← hw4]
      refine wpList_append rfl (.tmp 38) (.tmp 42) rfl (.slice A2 j c2) (.slice (some ⟨wi.heap.size, 0, none⟩) 1 1) rfl rfl (fun v' w' => rowF elDr w.heap.size (L ++ [(k, u)]) v' w' ∧ w4.grownBy w' (Value.slice A2 j c2).ownBlock) (append_onto tpDr _ w.heap.size _ _ L [(k, u)] w4 (rowF_ext _ _ _ hE4 HRI.out) (srcOf_one hone) (by rw [← HN.out, List.length_singleton]; omega) (by have := ext_size (ext_trans HE2.out (ext_trans HE.out hE4)); omega)) ?_
      rintro v5 w5 ⟨hr5, hg5⟩
      have HF := Lib.hid (show RowTo (addL L k u) w (.returned v5) w5 from ⟨v5, rfl, by rw [HADD.out]; exact hr5, ext_of_upd (upd_trans (upd_of_ext (ext_trans HE2.out (ext_trans HE.out hE4))) (upd_grown hg5) (fun i hi e => absurd hi (by have := HRI.out.2 i e; omega)))⟩)
      clear hw4 hE4 hone hr5 hg5 k0 k1 k2 lk
      go_simp
      go_wp2
      refine bodyPost_ret (results_tmp rfl _ _ _) rfl ?_
      exact HF.out
end Go.Proofs.Ytiabmdboacpmcaa
/- forest: a forest of acts, and the document's edges. -/
namespace Go.Proofs.Ytiabmdboacpmcaa
open Go Go.RowKit Go.Sort Go.WideMaps Go.Maps
set_option maxHeartbeats 4000000

def absZ (n : Int) : Int := (IntKind.u64.wrap n).tmod 5
theorem absZ_le (n : Int) : 0 ≤ absZ n ∧ absZ n < 5 := by
  have h : 0 ≤ IntKind.u64.wrap n := by
    simp [IntKind.wrap, IntKind.signed, IntKind.bits]
    omega
  unfold absZ
  rw [Int.tmod_eq_emod_of_nonneg h]
  omega
theorem abs_any (n : Int) (w : World) : Calls Try.prog 43 #[.int .i64 n] w fun e w' => e = .returned (.int .i64 (absZ n)) ∧ w' = w := by
  have h := absZ_le n
  have hw : wrap64 ((IntKind.u64.wrap n).tmod 5) = absZ n := IntWalk.wrap64_in _ (by unfold absZ at h; omega)
  have H := Lib.hid hw
  clear h hw
  go_enter Try.func43, Try.ntmps43
  go_wp2
  refine bodyPost_ret (results_tmp rfl _ _ _) rfl ?_
  exact ⟨by rw [← H.out]; rfl, rfl⟩
end Go.Proofs.Ytiabmdboacpmcaa
/- forest, walked. -/
namespace Go.Proofs.Ytiabmdboacpmcaa
open Go Go.RowKit Go.Sort Go.WideMaps Go.Maps
set_option maxHeartbeats 4000000

structure AR where
  kind : Int
  key : Key
  till : Int
def RdAR (w : World) (v : Value) (L : List AR) : Prop := ∃ A c, v = .slice A L.length c ∧ (∀ x ∈ L, ok3 x.key ∧ okI x.till) ∧ (L ≠ [] → ∃ b off, A = some ⟨b, off, none⟩ ∧ b < w.heap.size ∧ ∀ (i : Nat) (x : AR), L[i]? = some x →
  w.cell? ⟨b, off + i * 5, none⟩ = some (.int .u8 x.kind) ∧ w.cell? ⟨b, off + i * 5 + 1, none⟩ = some (.int .i64 x.key.a) ∧ w.cell? ⟨b, off + i * 5 + 2, none⟩ = some (.int .i64 x.key.b) ∧ w.cell? ⟨b, off + i * 5 + 3, none⟩ = some (.int .i64 x.key.c) ∧ w.cell? ⟨b, off + i * 5 + 4, none⟩ = some (.int .i64 x.till))
theorem rdAR_ext {w w' : World} {v : Value} {L : List AR} (h : RdAR w v L) (hE : Ext w w') : RdAR w' v L := by
  obtain ⟨A, c, h1, h2, h3⟩ := h
  refine ⟨A, c, h1, h2, fun hne => ?_⟩
  obtain ⟨b, off, h4, h5, h6⟩ := h3 hne
  refine ⟨b, off, h4, ext_lt hE h5, fun i x hx => ?_⟩
  obtain ⟨c0, c1, c2, c3, c4⟩ := h6 i x hx
  exact ⟨(ext_cell hE _ _ h5).trans c0, (ext_cell hE _ _ h5).trans c1, (ext_cell hE _ _ h5).trans c2, (ext_cell hE _ _ h5).trans c3, (ext_cell hE _ _ h5).trans c4⟩
def absK (k : Key) : Key := ⟨absZ k.a, absZ k.b, absZ k.c⟩
def untZ (u : Int) : Int := u.tmod 1000
theorem untZ_le (u : Int) : -1000 < untZ u ∧ untZ u < 1000 := by
  unfold untZ
  have h1 := Int.tmod_lt_of_pos u (b := 1000) (by omega)
  have h2 := Int.lt_tmod_of_pos u (b := 1000) (by omega)
  omega
theorem absK_ok (k : Key) : ok3 (absK k) ∧ 0 ≤ (absK k).a ∧ 0 ≤ (absK k).b ∧ 0 ≤ (absK k).c := by
  have h1 := absZ_le k.a
  have h2 := absZ_le k.b
  have h3 := absZ_le k.c
  unfold absK
  exact ⟨⟨(show okI (absZ k.a) from okI_iff.2 (by omega)), (show okI (absZ k.b) from okI_iff.2 (by omega)), (show okI (absZ k.c) from okI_iff.2 (by omega))⟩, h1.1, h2.1, h3.1⟩
theorem untZ_ok (u : Int) : okI (untZ u) := okI_iff.2 (by have := untZ_le u; omega)
theorem absK_right (k : Key) (u : Int) : rightB (absK k) (untZ u) = true := by
  rw [rightB_iff]
  obtain ⟨_, h1, h2, h3⟩ := absK_ok k
  have := untZ_le u
  unfold forever
  exact ⟨h1, h2, h3, by omega, by omega⟩
def edsL (L : List AR) : List Ed := L.foldl (fun E x => addL E (absK x.key) (untZ x.till)) []
theorem edsL_take {L : List AR} {j : Nat} {x : AR} (h : L[j]? = some x) : edsL (L.take (j + 1)) = addL (edsL (L.take j)) (absK x.key) (untZ x.till) := by
  unfold edsL
  rw [List.take_add_one, h, Option.toList_some, List.foldl_append]
  rfl
theorem foldl_addL : ∀ (L : List AR) (E : List Ed), KeysNd E → KeysNd (L.foldl (fun E x => addL E (absK x.key) (untZ x.till)) E) ∧ (L.foldl (fun E x => addL E (absK x.key) (untZ x.till)) E).length ≤ E.length + L.length
  | [], E, h => ⟨h, by simp⟩
  | x :: L, E, h => by
    obtain ⟨h1, h2⟩ := foldl_addL L (addL E (absK x.key) (untZ x.till)) (addL_nd h)
    refine ⟨h1, ?_⟩
    have h3 := addL_len E (absK x.key) (untZ x.till)
    rw [List.foldl_cons, List.length_cons]
    omega
theorem edsL_nd (L : List AR) : KeysNd (edsL L) := (foldl_addL L [] List.nodup_nil).1
theorem edsL_len (L : List AR) : (edsL L).length ≤ L.length := by have := (foldl_addL L [] List.nodup_nil).2; simpa [edsL] using this
/-- a forest, and a row that is none of its own -/
def FoR (t : Tr) (E : List Ed) (H N : Nat) (w0 : World) (L : Loc) (ve : Value) (w : World) : Prop := ∃ F, Fo t w0 L 100 minI (grOf E) F w ∧ (∀ b, F b → H ≤ b ∧ b < N) ∧ rowF elDr H E ve w ∧ ∀ g, ve.ownBlock = some g → ¬ F g
theorem foR_ext {t : Tr} {E : List Ed} {H N : Nat} {w0 : World} {L : Loc} {ve : Value} {w w' : World} (h : FoR t E H N w0 L ve w) (hE : Ext w w') : FoR t E H N w0 L ve w' := by
  obtain ⟨F, h1, h2, h3, h4⟩ := h
  exact ⟨F, fo_ext h1 hE, h2, rowF_ext _ _ _ hE h3, h4⟩
def CellK (H : Nat) (v : Value) (w : World) : Prop := ∃ g, v = .pointer (some ⟨g, 0, none⟩) ∧ H ≤ g ∧ w.heap[g]? = some (.cells #[.int .i64 0, .int .i64 0, .int .i64 0] 73 (0, 0))
theorem cellK_ext {H : Nat} (v : Value) (w w' : World) (hE : Ext w w') (h : CellK H v w) : CellK H v w' := by
  obtain ⟨g, h1, h2, h3⟩ := h
  exact ⟨g, h1, h2, (ext_block hE (block_lt h3)).trans h3⟩
theorem add_foR {t : Tr} {E : List Ed} {H N : Nat} {w0 : World} {L : Loc} {ve : Value} {k : Key} {u : Int} {w : World} (h : FoR t E H N w0 L ve w) (hN : N ≤ w.heap.size) (hnd : KeysNd E) (hl : E.length ≤ 90) (hk : ok3 k) (hu : okI u) (hr : rightB k u = true) :
    Calls Try.prog 42 #[ptr L.pf, k3 k, .int .i64 u] w fun e w' => e = .returned (.int .i64 0) ∧ (∃ F, Fo t w0 L 100 minI (grOf (addL E k u)) F w' ∧ (∀ b, F b → H ≤ b ∧ b < w'.heap.size) ∧ rowF elDr H E ve w' ∧ ∀ g, ve.ownBlock = some g → ¬ F g) ∧ Upd (fun b => H ≤ b ∧ b < N) w w' := by
  obtain ⟨F, h1, h2, h3, h4⟩ := h
  obtain ⟨W0, hM⟩ := h1.mach
  have hadd := add_any w0 W0 L 100 minI (grOf E) _ 0 (enT t) (mvT t) F (E.map (·.1)) k u w h1.form (machT_mach hM) (card_of hnd) (by rw [List.length_map]; omega) hk hu
  obtain ⟨hs1, hs2⟩ := add_same (L := E) (k := k) (u := u) (h := minI) (room := 100) (N := (E.map (·.1)).length) hr (by rw [List.length_map]; omega) (by unfold minI; have := okI_iff.1 hu; omega)
  refine hadd.mono ?_
  rintro e w' ⟨rfl, hF, hU⟩
  rw [hs1] at hF
  rw [hs2]
  have hsz := hU.size
  have hlow : ∃ c, F c ∧ H ≤ c := by
    obtain ⟨S, f, hm, _⟩ := h1.form.ex
    exact ⟨L.pf, hm.own.1, (h2 _ hm.own.1).1⟩
  refine ⟨rfl, ⟨fun b => F b ∨ (w.heap.size ≤ b ∧ b < w'.heap.size), ⟨h1.mach, forM_own hF (fun b hb hf => ?_)⟩, fun b hb => ?_, ⟨rowE_upd h3.1 hU (fun b hb hf => h4 b hb hf), h3.2⟩, fun g hg hf => ?_⟩, upd_mono hU (fun b _ hf => h2 b hf)⟩
  · rcases hf with hf | hf
    · exact .inl hf
    · exact .inr ⟨hf, hb⟩
  · rcases hb with hb | hb
    · have := h2 b hb; have := hU.size; omega
    · obtain ⟨c, hc1, hc2⟩ := hlow
      have := (h2 c hc1).2
      exact ⟨by omega, hb.2⟩
  · rcases hf with hf | hf
    · exact h4 g hg hf
    · have := (rowE_block h3.1 hg).1
      omega
def ForestTo (t : Tr) (E : List Ed) (w : World) (e : Ending) (w' : World) : Prop := ∃ w0 L ve, e = .returned (.tuple #[ptr L.pf, ve]) ∧ FoR t E w.heap.size w'.heap.size w0 L ve w' ∧ Ext w w'
set_option maxRecDepth 100000 in
theorem forest_any (t : Tr) (v va : Value) (L : List AR) (w : World) (hv : PV w t v) (hc : chk t = 0) (ha : RdAR w va L) (hl : L.length ≤ 40) : Calls Try.prog 37 #[v, va] w (ForestTo t (edsL L) w) := by
  obtain ⟨kd, nn, A0, n0, c0, rfl⟩ : ∃ k n A l c, v = .agg #[.int .i64 k, .int .i64 n, .slice A l c] := by
    obtain ⟨k, n, ps⟩ := t
    obtain ⟨s, rfl, hs⟩ := hv
    obtain ⟨A, c, rfl⟩ := PS_form hs
    exact ⟨k, n, A, _, c, rfl⟩
  have hE0 := ext_alloc (ext_refl w) (.cells #[.int .i64 kd, .int .i64 nn, .slice A0 n0 c0] 30)
  have HE0 := Lib.hid hE0
  have CN := Lib.hid (new_yes t _ 100 _ (PV_ext hv hE0) hc (by omega))
  have HA := Lib.hid ha
  obtain ⟨AA, ca, rfl, hok, -⟩ := ha
  have HOK := Lib.hid hok
  obtain ⟨n, hn⟩ : ∃ n, n = L.length := ⟨_, rfl⟩
  rw [← hn] at hl HA ⊢
  have HN := Lib.hid hn
  clear hv hc hE0 hok hn
  go_enter Try.func37, Try.ntmps37
  go_wp2_with fail
  refine CN.out.mono ?_
  rintro e w1 ⟨w0, Lc, rfl, hF, hE1, hE1'⟩
  have HE1 := Lib.hid (ext_trans HE0.out hE1')
  have HF1 := Lib.hid (show FoR t (edsL (L.take 0)) w.heap.size w1.heap.size w0 Lc (.slice none 0 0) w1 from ⟨fun b => w.heap.size ≤ b ∧ b < w1.heap.size, fo_own hF (fun b hb hf => ⟨by have := ext_size HE0.out; omega, hb⟩), fun b hb => hb, rowF_nil _ _, fun g hg => by cases hg⟩)
  clear hF hE1 hE1' CN
  go_wp2
  go_loopw [8, 19] (fun y x wr => ∃ j : Nat, j ≤ n ∧ x = .int .i64 (j : Int) ∧ ∃ ve, y = ve ∧ FoR t (edsL (L.take j)) w.heap.size wr.heap.size w0 Lc ve wr ∧ Ext w wr) (fun _ x _ => n - (intOf x).toNat)
  case atStart => exact ⟨0, by omega, rfl, _, rfl, HF1.out, HE1.out⟩
  case round =>
    rename World => wi
    obtain ⟨j, hj, rfl, ve, rfl, hF, hE⟩ := hrel
    have HF := Lib.hid hF
    have HE := Lib.hid hE
    clear hF hE
    by_cases hlt : j < n
    · have hji : (j : Int) < (n : Int) := by omega
      have hj0 : (0 : Int) ≤ (j : Int) := by omega
      obtain ⟨x, hx⟩ : ∃ x, L[j]? = some x := ⟨_, List.getElem?_eq_getElem (by rw [← HN.out]; exact hlt)⟩
      obtain ⟨A', c', hv', _, hrd⟩ := rdAR_ext HA.out HE.out
      simp only [Value.slice.injEq] at hv'
      obtain ⟨rfl, -, rfl⟩ := hv'
      obtain ⟨g, off, rfl, lg, hc⟩ := hrd (fun e => by rw [e] at hx; simp at hx)
      obtain ⟨c0', c1', c2', c3', c4'⟩ := hc j x hx
      have HX := Lib.hid hx
      obtain ⟨W4, hW4⟩ : ∃ W4, W4 = wi.alloc (.cells #[.int .u8 x.kind, .int .i64 x.key.a, .int .i64 x.key.b, .int .i64 x.key.c, .int .i64 x.till] 82) := ⟨_, rfl⟩
      have hE4 : Ext wi W4 := by rw [hW4]; exact ext_alloc (ext_refl _) _
      obtain ⟨bx, hbx⟩ : ∃ b, b = wi.heap.size := ⟨_, rfl⟩
      have hX4 : W4.heap[bx]? = some (.cells #[.int .u8 x.kind, .int .i64 x.key.a, .int .i64 x.key.b, .int .i64 x.key.c, .int .i64 x.till] 82 (0, 0)) := by rw [hW4, hbx]; exact heap_alloc_new _ _
      have HX4 := Lib.hid hX4
      have HE4 := Lib.hid hE4
      have HBX := Lib.hid hbx
      clear hc hrd hx hE4 hX4 hbx
      have ux : ∀ (o : Nat) (w' : World), Ext W4 w' → w'.cell? ⟨bx, o, none⟩ = (#[.int .u8 x.kind, .int .i64 x.key.a, .int .i64 x.key.b, .int .i64 x.key.c, .int .i64 x.till] : Array Value)[o]? := fun o w' h => block_cell ((ext_block h (block_lt HX4.out)).trans HX4.out) o
      have uxl : ∀ w', Ext W4 w' → bx < w'.heap.size := fun w' h => ext_lt h (block_lt HX4.out)
      go_wp2
      rw [← hW4]
      clear hW4 c0' c1' c2' c3' c4' lg
      rw [← HBX.out]
      refine wp_region_line ext_wR [] [(0, false, (fun v => v = (.pointer (some ⟨bx, 1, none⟩))), fun _ _ => True), (1, false, (fun v => v = (.pointer (some ⟨bx, 1, none⟩))), fun _ _ => True), (2, false, (fun v => v = (.int .i64 x.key.a)), fun _ _ => True), (3, false, (fun v => v = (.int .i64 (absZ x.key.a))), fun _ _ => True), (4, false, (fun v => v = (.pointer (some ⟨bx, 1, none⟩))), fun _ _ => True), (5, false, (fun v => v = (.pointer (some ⟨bx, 2, none⟩))), fun _ _ => True), (6, false, (fun v => v = (.int .i64 x.key.b)), fun _ _ => True), (7, false, (fun v => v = (.int .i64 (absZ x.key.b))), fun _ _ => True), (8, false, (fun v => v = (.pointer (some ⟨bx, 1, none⟩))), fun _ _ => True), (9, false, (fun v => v = (.pointer (some ⟨bx, 3, none⟩))), fun _ _ => True), (10, false, (fun v => v = (.int .i64 x.key.c)), fun _ _ => True), (11, false, (fun v => v = (.int .i64 (absZ x.key.c))), fun _ _ => True), (12, false, (fun v => v = (.agg #[.int .i64 (absZ x.key.a), .int .i64 (absZ x.key.b), .int .i64 (absZ x.key.c)])), fun _ _ => True), (13, true, (fun v => ∃ g, v = .pointer (some ⟨g, 0, none⟩)), CellK W4.heap.size)] [14] [0, 1, 2, 3, 4, 5, 6, 7, 8, 9, 10, 11, 12, 13] rfl (by kernel_rfl) (by kernel_rfl) (fun _ _ d _ _ h => by cases d <;> exact h) ?_
      refine wpPre_nil ?_
      refine wpGl_pure1 (fun _ _ _ h h1 w' hw hs => h1 w' hw (h _ hs)) rfl (fun w6 hE6 hS6 => ?_) (fun K hK => ?_)
      · simp only [opAtL, runsAt]
        go_simp
        all_goals (first | exact ⟨ext_refl _, rfl⟩ | exact ext_refl _ | rfl | trivial)
      go_simp
      refine hK _ ?_
      clear hK K
      refine wpGl_pure1 (fun _ _ _ h h1 w' hw hs => h1 w' hw (h _ hs)) rfl (fun w6 hE6 hS6 => ?_) (fun K hK => ?_)
      · simp only [opAtL, runsAt]
        go_simp
        all_goals (first | exact ⟨ext_refl _, rfl⟩ | exact ext_refl _ | rfl | trivial)
      go_simp
      refine hK _ ?_
      clear hK K
      refine wpGl_pure1 (fun _ _ _ h h1 w' hw hs => h1 w' hw (h _ hs)) rfl (fun w6 hE6 hS6 => ?_) (fun K hK => ?_)
      · have q0 := ux 1 w6 hE6
        have q1 := uxl w6 hE6
        simp only [opAtL, runsAt]
        go_simp
        all_goals (first | exact ⟨ext_refl _, rfl⟩ | exact ext_refl _ | rfl | trivial)
      go_simp
      refine hK _ ?_
      clear hK K
      refine wpGl_pure1 (fun _ _ _ h h1 w' hw hs => h1 w' hw (h _ hs)) rfl (fun w6 hE6 hS6 => ?_) (fun K hK => ?_)
      · simp only [opAtL, runsAt]
        go_simp
        refine (abs_any x.key.a w6).mono ?_
        rintro e w7 ⟨rfl, rfl⟩
        first | exact ⟨rfl, ext_refl _⟩ | exact ⟨_, rfl, ext_refl _, rfl⟩
      go_simp
      refine hK _ ?_
      clear hK K
      refine wpGl_pure1 (fun _ _ _ h h1 w' hw hs => h1 w' hw (h _ hs)) rfl (fun w6 hE6 hS6 => ?_) (fun K hK => ?_)
      · simp only [opAtL, runsAt]
        go_simp
        all_goals (first | exact ⟨ext_refl _, rfl⟩ | exact ext_refl _ | rfl | trivial)
      go_simp
      refine hK _ ?_
      clear hK K
      refine wpGl_pure1 (fun _ _ _ h h1 w' hw hs => h1 w' hw (h _ hs)) rfl (fun w6 hE6 hS6 => ?_) (fun K hK => ?_)
      · simp only [opAtL, runsAt]
        go_simp
        all_goals (first | exact ⟨ext_refl _, rfl⟩ | exact ext_refl _ | rfl | trivial)
      go_simp
      refine hK _ ?_
      clear hK K
      refine wpGl_pure1 (fun _ _ _ h h1 w' hw hs => h1 w' hw (h _ hs)) rfl (fun w6 hE6 hS6 => ?_) (fun K hK => ?_)
      · have q0 := ux 2 w6 hE6
        have q1 := uxl w6 hE6
        simp only [opAtL, runsAt]
        go_simp
        all_goals (first | exact ⟨ext_refl _, rfl⟩ | exact ext_refl _ | rfl | trivial)
      go_simp
      refine hK _ ?_
      clear hK K
      refine wpGl_pure1 (fun _ _ _ h h1 w' hw hs => h1 w' hw (h _ hs)) rfl (fun w6 hE6 hS6 => ?_) (fun K hK => ?_)
      · simp only [opAtL, runsAt]
        go_simp
        refine (abs_any x.key.b w6).mono ?_
        rintro e w7 ⟨rfl, rfl⟩
        first | exact ⟨rfl, ext_refl _⟩ | exact ⟨_, rfl, ext_refl _, rfl⟩
      go_simp
      refine hK _ ?_
      clear hK K
      refine wpGl_pure1 (fun _ _ _ h h1 w' hw hs => h1 w' hw (h _ hs)) rfl (fun w6 hE6 hS6 => ?_) (fun K hK => ?_)
      · simp only [opAtL, runsAt]
        go_simp
        all_goals (first | exact ⟨ext_refl _, rfl⟩ | exact ext_refl _ | rfl | trivial)
      go_simp
      refine hK _ ?_
      clear hK K
      refine wpGl_pure1 (fun _ _ _ h h1 w' hw hs => h1 w' hw (h _ hs)) rfl (fun w6 hE6 hS6 => ?_) (fun K hK => ?_)
      · simp only [opAtL, runsAt]
        go_simp
        all_goals (first | exact ⟨ext_refl _, rfl⟩ | exact ext_refl _ | rfl | trivial)
      go_simp
      refine hK _ ?_
      clear hK K
      refine wpGl_pure1 (fun _ _ _ h h1 w' hw hs => h1 w' hw (h _ hs)) rfl (fun w6 hE6 hS6 => ?_) (fun K hK => ?_)
      · have q0 := ux 3 w6 hE6
        have q1 := uxl w6 hE6
        simp only [opAtL, runsAt]
        go_simp
        all_goals (first | exact ⟨ext_refl _, rfl⟩ | exact ext_refl _ | rfl | trivial)
      go_simp
      refine hK _ ?_
      clear hK K
      refine wpGl_pure1 (fun _ _ _ h h1 w' hw hs => h1 w' hw (h _ hs)) rfl (fun w6 hE6 hS6 => ?_) (fun K hK => ?_)
      · simp only [opAtL, runsAt]
        go_simp
        refine (abs_any x.key.c w6).mono ?_
        rintro e w7 ⟨rfl, rfl⟩
        first | exact ⟨rfl, ext_refl _⟩ | exact ⟨_, rfl, ext_refl _, rfl⟩
      go_simp
      refine hK _ ?_
      clear hK K
      refine wpGl_pure1 (fun _ _ _ h h1 w' hw hs => h1 w' hw (h _ hs)) rfl (fun w6 hE6 hS6 => ?_) (fun K hK => ?_)
      · simp only [opAtL, runsAt]
        go_simp
        all_goals (first | exact ⟨ext_refl _, rfl⟩ | exact ext_refl _ | rfl | trivial)
      go_simp
      refine hK _ ?_
      clear hK K
      refine wpGl_fresh rfl cellK_ext (fun w6 hE6 hS6 => ?_) (fun gk => ?_)
      · simp only [opAtL, runsAt]
        go_simp
        exact ⟨ext_alloc (ext_refl _) _, ⟨w6.heap.size, rfl, Nat.le_refl _, by simp⟩, w6.heap.size, rfl, ext_size hE6, heap_alloc_new w6 _⟩
      refine wpGl_nil (fun w5 hE5 hS5 => ?_)
      obtain ⟨gk', hgk, hgl, hgb⟩ := hS5.1 _ (List.mem_cons_self ..)
      have hgg : gk' = gk := by
        simp only [Value.pointer.injEq, Option.some.injEq, Addr.mk.injEq, and_true] at hgk
        exact hgk.symm
      subst hgg
      clear hS5 ux uxl hgk
      have HE5 := Lib.hid hE5
      have HGB := Lib.hid hgb
      have HGL := Lib.hid hgl
      have HX5 := Lib.hid ((ext_block hE5 (block_lt HX4.out)).trans HX4.out)
      obtain ⟨w6, hw6⟩ : ∃ w6, w6 = ((w5.setCell ⟨gk', 0, none⟩ (.int .i64 (absZ x.key.a))).setCell ⟨gk', 1, none⟩ (.int .i64 (absZ x.key.b))).setCell ⟨gk', 2, none⟩ (.int .i64 (absZ x.key.c)) := ⟨_, rfl⟩
      have hg6 : w6.heap[gk']? = some (.cells #[.int .i64 (absZ x.key.a), .int .i64 (absZ x.key.b), .int .i64 (absZ x.key.c)] 73 (0, 0)) := by
        rw [hw6]
        exact heap_setCell_at (j := 2) (heap_setCell_at (j := 1) (heap_setCell_at (j := 0) hgb))
      have hU56 : Upd (fun b => b = gk') w5 w6 := by
        rw [hw6]
        exact upd_trans (upd_trans (upd_setCell (a := ⟨gk', 0, none⟩) _) (upd_setCell (a := ⟨gk', 1, none⟩) _) (fun _ _ h => h)) (upd_setCell (a := ⟨gk', 2, none⟩) _) (fun _ _ h => h)
      have hbg : bx ≠ gk' := fun e => by have h5 := block_lt HX4.out; omega
      have hx6 := (hU56.block bx (block_lt HX5.out) hbg).trans HX5.out
      have HG6 := Lib.hid hg6
      have HX6 := Lib.hid hx6
      have HE6 := Lib.hid (show Ext wi w6 from ext_of_upd (upd_trans (upd_of_ext (ext_trans HE4.out hE5)) hU56 (fun i hi e => absurd hi (by have e' : i = gk' := e; have := ext_size HE4.out; omega))))
      have y0 := block_cell hgb 0
      have y1 := block_cell hgb 1
      have y2 := block_cell hgb 2
      have yf0 := block_frozen hgb 0
      have yf1 := block_frozen hgb 1
      have yf2 := block_frozen hgb 2
      have yl := block_lt hgb
      clear hE5 hgb hgl hg6 hU56 hx6 hbg
      refine wpSeq_of_list [14] [_] _ _ rfl ?_
      have z0 : (((w5.setCell ⟨gk', 0, none⟩ (.int .i64 (absZ x.key.a))).setCell ⟨gk', 1, none⟩ (.int .i64 (absZ x.key.b))).setCell ⟨gk', 2, none⟩ (.int .i64 (absZ x.key.c))).cell? ⟨gk', 0, none⟩ = some (.int .i64 (absZ x.key.a)) := by rw [← hw6]; exact block_cell HG6.out 0
      have z1 : (((w5.setCell ⟨gk', 0, none⟩ (.int .i64 (absZ x.key.a))).setCell ⟨gk', 1, none⟩ (.int .i64 (absZ x.key.b))).setCell ⟨gk', 2, none⟩ (.int .i64 (absZ x.key.c))).cell? ⟨gk', 1, none⟩ = some (.int .i64 (absZ x.key.b)) := by rw [← hw6]; exact block_cell HG6.out 1
      have z2 : (((w5.setCell ⟨gk', 0, none⟩ (.int .i64 (absZ x.key.a))).setCell ⟨gk', 1, none⟩ (.int .i64 (absZ x.key.b))).setCell ⟨gk', 2, none⟩ (.int .i64 (absZ x.key.c))).cell? ⟨gk', 2, none⟩ = some (.int .i64 (absZ x.key.c)) := by rw [← hw6]; exact block_cell HG6.out 2
      have z3 : (((w5.setCell ⟨gk', 0, none⟩ (.int .i64 (absZ x.key.a))).setCell ⟨gk', 1, none⟩ (.int .i64 (absZ x.key.b))).setCell ⟨gk', 2, none⟩ (.int .i64 (absZ x.key.c))).cell? ⟨bx, 4, none⟩ = some (.int .i64 x.till) := by rw [← hw6]; exact block_cell HX6.out 4
      go_simp
      go_wp2_with fail
      rw [← hw6]
      clear hw6 z0 z1 z2 z3 y0 y1 y2 yf0 yf1 yf2 yl
      obtain ⟨EL, hEL⟩ : ∃ E, E = edsL (L.take j) := ⟨_, rfl⟩
      have hnd : KeysNd EL := by rw [hEL]; exact edsL_nd _
      have hll : EL.length ≤ 40 := by rw [hEL]; exact Nat.le_trans (edsL_len _) (by rw [List.length_take]; omega)
      have HEL := Lib.hid (show edsL (L.take (j + 1)) = addL EL (absK x.key) (untZ x.till) by rw [hEL]; exact edsL_take HX.out)
      rw [← hEL] at HF
      have HND := Lib.hid hnd
      clear hEL hnd
      refine (add_foR (k := absK x.key) (u := untZ x.till) (foR_ext HF.out HE6.out) (ext_size HE6.out) HND.out (by omega) (absK_ok _).1 (untZ_ok _) (absK_right _ _)).mono ?_
      rintro e w7 ⟨rfl, hF7, hU7⟩
      have hg7 := (hU7.block gk' (block_lt HG6.out) (fun e => by have h5 : w.heap.size ≤ gk' ∧ gk' < wi.heap.size := e; have h6 := ext_size HE4.out; have h7 := HGL.out; omega)).trans HG6.out
      have hx7 := (hU7.block bx (block_lt HX6.out) (fun e => by have h5 : w.heap.size ≤ bx ∧ bx < wi.heap.size := e; have h6 := HBX.out; omega)).trans HX6.out
      have HF7 := Lib.hid hF7
      have HE7 := Lib.hid (show Ext w w7 from ext_of_upd (upd_trans (upd_of_ext (ext_trans HE.out HE6.out)) hU7 (fun i hi e => by have h5 : w.heap.size ≤ i ∧ i < wi.heap.size := e; omega)))
      have z0 := block_cell hg7 0
      have z1 := block_cell hg7 1
      have z2 := block_cell hg7 2
      have zl := block_lt hg7
      have z3 := block_cell hx7 4
      have zm := block_lt hx7
      clear hF7 hU7 hg7 hx7
      go_wp2_with fail
      refine (refadd_any _ EL (absK x.key) (untZ x.till) w7 (by obtain ⟨F, h1, h2, h3, h4⟩ := HF7.out; exact h3.1) (by omega)).mono ?_
      rintro e w8 ⟨v8, rfl, hr8, hE8⟩
      have HF8 := Lib.hid (show FoR t (addL EL (absK x.key) (untZ x.till)) w.heap.size w8.heap.size w0 Lc v8 w8 from by
        obtain ⟨F, h1, h2, h3, h4⟩ := HF7.out
        refine ⟨F, fo_ext h1 hE8, fun b hb => ⟨(h2 b hb).1, Nat.lt_of_lt_of_le (h2 b hb).2 (ext_size hE8)⟩, rowF_low hr8 (ext_size HE7.out), fun g hg hf => ?_⟩
        have h5 := hr8.2 g hg
        have h6 := (h2 g hf).2
        omega)
      have HE8 := Lib.hid (ext_trans HE7.out hE8)
      clear hr8 hE8 z0 z1 z2 zl z3 zm
      go_wp2
      go_roundw
      case rel => exact ⟨j + 1, by omega, by go_num, _, rfl, by rw [HEL.out]; exact HF8.out, HE8.out⟩
      case measure => simp [intOf]; omega
    · have h5 : j = n := by omega
      subst h5
      have hall : L.take j = L := by rw [HN.out, List.take_length]
      rw [hall] at HF
      have HR := Lib.hid (fun ve (h : FoR t (edsL L) w.heap.size wi.heap.size w0 Lc ve wi) => (⟨w0, Lc, ve, rfl, h, HE.out⟩ : ForestTo t (edsL L) w (.returned (.tuple #[ptr Lc.pf, ve])) wi))
      clear hall
      go_wp2
      go_ret2
      exact HR.out _ HF.out
end Go.Proofs.Ytiabmdboacpmcaa
/- awake, of layer 11. -/
namespace Go.Proofs.Ytiabmdboacpmcaa
open Go Go.RowKit Go.Sort Go.WideMaps Go.Maps
set_option maxHeartbeats 4000000

def k102 : Key := ⟨1, 0, 2⟩
def grA : Gr3 := setG (fun _ => none) k102 7
theorem grA_some {k : Key} {u : Int} : grA k = some u ↔ k = k102 ∧ u = 7 := by
  unfold grA
  by_cases h : k = k102
  · subst h; rw [setG_same]; simp [eq_comm]
  · rw [setG_other h]; simp [h]
theorem words_trA {w : List Sy} (h : Words trA w) : ∀ s ∈ w, s = (0, false) := by
  simp only [trA, Words] at h
  have h' : StarL (WordsAlt [.node 0 0 []]) w := h
  induction h' with
  | nil => intro s hs; cases hs
  | cons h1 h2 ih =>
    intro s hs
    rcases List.mem_append.1 hs with h3 | h3
    · rcases h1 with h1 | h1
      · simp only [Words] at h1
        simp at h1
        rw [h1] at h3
        exact List.mem_singleton.1 h3
      · exact h1.elim
    · exact ih h2 s h3
theorem run_A {t x y : Int} {w : List Sy} (h : Run grA t x w y) (hw : ∀ s ∈ w, s = (0, false)) : x = y ∨ x = 1 ∧ y = 2 ∧ t ≤ 7 := by
  induction h with
  | nil => exact .inl rfl
  | fwd h1 h2 _ ih =>
    obtain ⟨rfl, rfl⟩ := grA_some.1 h1
    rcases ih (fun s hs => hw s (List.mem_cons_of_mem _ hs)) with h3 | ⟨h3, h4, _⟩
    · exact .inr ⟨rfl, h3.symm, h2⟩
    · exact .inr ⟨rfl, h4, h2⟩
  | bwd h1 h2 _ ih =>
    have := hw _ (List.mem_cons_self ..)
    simp at this
theorem node_A (x : Int) : isNode grA x ↔ x = 1 ∨ x = 2 := by
  unfold isNode
  constructor
  · rintro ⟨k, u, h, h2⟩
    obtain ⟨rfl, rfl⟩ := grA_some.1 h
    simpa [k102, eq_comm] using h2
  · rintro (rfl | rfl)
    · exact ⟨k102, 7, grA_some.2 ⟨rfl, rfl⟩, .inl rfl⟩
    · exact ⟨k102, 7, grA_some.2 ⟨rfl, rfl⟩, .inr rfl⟩
theorem lead_A (x y t : Int) : Lead (Words trA) grA x y t ↔ (x = 1 ∨ x = 2) ∧ t ≤ forever ∧ (x = y ∨ x = 1 ∧ y = 2 ∧ t ≤ 7) := by
  unfold Lead
  rw [node_A]
  constructor
  · rintro ⟨h1, h2, w, h3, h4⟩
    exact ⟨h1, h2, run_A h4 (words_trA h3)⟩
  · rintro ⟨h1, h2, h3⟩
    refine ⟨h1, h2, ?_⟩
    rcases h3 with rfl | ⟨rfl, rfl, h3⟩
    · exact ⟨[], wordsA1, .nil _⟩
    · refine ⟨[(0, false)], ?_, .fwd (k := k102) (u := 7) (grA_some.2 ⟨rfl, rfl⟩) h3 (.nil _)⟩
      simp only [trA, Words]
      exact .cons (u := [(0, false)]) (v := []) (.inl rfl) .nil
theorem prs_A {p : Prs} (h : PrsOf (Words trA) grA p) : p ⟨1, 1⟩ = some forever ∧ p ⟨1, 2⟩ = some 7 ∧ p ⟨2, 2⟩ = some forever ∧ ∀ q, (p q).isSome = true → q = ⟨1, 1⟩ ∨ q = ⟨1, 2⟩ ∨ q = ⟨2, 2⟩ := by
  refine ⟨(h.is 1 1 _).2 ⟨(lead_A ..).2 ⟨.inl rfl, Int.le_refl _, .inl rfl⟩, fun t ht => ((lead_A ..).1 ht).2.1⟩, (h.is 1 2 _).2 ⟨(lead_A ..).2 ⟨.inl rfl, by decide, .inr ⟨rfl, rfl, Int.le_refl _⟩⟩, fun t ht => ?_⟩, (h.is 2 2 _).2 ⟨(lead_A ..).2 ⟨.inr rfl, Int.le_refl _, .inl rfl⟩, fun t ht => ((lead_A ..).1 ht).2.1⟩, fun q hq => ?_⟩
  · rcases ((lead_A ..).1 ht).2.2 with h1 | ⟨_, _, h1⟩
    · omega
    · exact h1
  · obtain ⟨x, y⟩ := q
    obtain ⟨v, hv⟩ := Option.isSome_iff_exists.1 hq
    obtain ⟨h1, h2, h3⟩ := (lead_A ..).1 ((h.is x y v).1 hv).1
    rcases h3 with rfl | ⟨rfl, rfl, _⟩
    · rcases h1 with rfl | rfl
      · exact .inl rfl
      · exact .inr (.inr rfl)
    · exact .inr (.inl rfl)
set_option maxRecDepth 100000 in
theorem awake11_any (w : World) : Calls Try.prog 36 #[] w fun e w' => e = .returned (.bool true) ∧ Ext w w' := by
  go_enter Try.func36, Try.ntmps36
  have hb0 := fun w => run_build (P := Try.prog) w 30 #[] #[.int .i64 0, .int .i64 0, .slice none 0 0] (by kernel_rfl)
  have hb1 := fun (v : Value) (w : World) => run_build (P := Try.prog) w 30 #[(0, .int .i64 4), (2, .slice (some ⟨w.heap.size, 0, none⟩) 1 1)] #[.int .i64 4, .int .i64 0, .slice (some ⟨w.heap.size, 0, none⟩) 1 1] (by kernel_rfl)
  go_wp2_with fail
  have h0 := heap_alloc_new w (.cells #[.int .i64 0, .int .i64 0, .slice none 0 0] 30)
  have hE0 := ext_alloc (ext_refl w) (.cells #[.int .i64 0, .int .i64 0, .slice none 0 0] 30)
  have hv : PV (w.alloc (.cells #[.int .i64 0, .int .i64 0, .slice none 0 0] 30)) trA (.agg #[.int .i64 4, .int .i64 0, .slice (some ⟨w.heap.size, 0, none⟩) 1 1]) := by
    refine ⟨_, rfl, some ⟨w.heap.size, 0, none⟩, 1, rfl, fun _ => ⟨_, _, rfl, ?_⟩⟩
    rw [PL]
    refine ⟨?_, by rw [PL]; trivial⟩
    rw [PT]
    exact ⟨block_cell h0 0, block_cell h0 1, none, 0, block_cell h0 2, fun h => absurd rfl h⟩
  refine (new_yes trA _ 5 _ hv chkA (by omega)).mono ?_
  rintro e w1 ⟨w0, L, rfl, hF, hE1, hE1'⟩
  have HF := Lib.hid (fo_own (F' := fun b => w.heap.size ≤ b) hF (fun b _ hb => by have := ext_size hE0; omega))
  have HE1 := Lib.hid (ext_trans hE0 hE1')
  clear hb0 hb1 h0 hE0 hv hF hE1 hE1'
  have hpn : ∀ w, (binOp .eql 61 (ptr L.pf) (.pointer none)).run Try.prog w = .ok (.bool false) w := fun w => by
    simp [binOp, Op.equal, Op.maxDepth, run_equalIn_pointer_nil (P := Try.prog) w 9999 61 _ Try.underlying61]
  go_wp2_with fail
  obtain ⟨W0, hM⟩ := HF.out.mach
  refine (add_any w0 W0 L 5 minI (fun _ => none) _ 0 (enT trA) (mvT trA) _ [] k102 7 w1 HF.out.form (machT_mach hM) ⟨List.nodup_nil, fun k => by simp⟩ (by simp) ⟨okI_iff.2 (by decide), okI_iff.2 (by decide), okI_iff.2 (by decide)⟩ (okI_iff.2 (by decide))).mono ?_
  rintro e w2 ⟨rfl, hF2, hU2⟩
  obtain ⟨hp1, hp2⟩ := add_put (E := fun _ => none) (h := minI) (room := 5) (N := 0) (k := k102) (u := 7) (by decide) (by simp) (by simp [minI])
  rw [List.length_nil, hp2] at hF2
  rw [List.length_nil, hp1]
  have HF2 := Lib.hid (show Fo trA w0 L 5 minI grA _ w2 from ⟨⟨W0, hM⟩, hF2⟩)
  have HE2 := Lib.hid (show Ext w w2 from ext_of_upd (upd_trans (upd_of_ext HE1.out) hU2 (fun i hi e => absurd hi (by have h5 : w.heap.size ≤ i := e; omega))))
  clear hM hF2 hU2 hp1 hp2 hpn
  go_wp2_with fail
  refine (pairs_any trA w0 L 5 minI grA _ [k102] w2 HF2.out ⟨by simp, fun k => by
    rw [List.mem_singleton]
    constructor
    · rintro rfl; rw [grA_some.2 ⟨rfl, rfl⟩]; rfl
    · intro h
      obtain ⟨u, hu⟩ := Option.isSome_iff_exists.1 h
      exact (grA_some.1 hu).1⟩ (by simp)).mono ?_
  rintro e w3 ⟨qb, N, p, rfl, hQ, hP, hqb, hE3⟩
  obtain ⟨p11, p12, p22, pall⟩ := prs_A hP
  have hN : 3 = N := mapG_card hQ (L := [⟨1, 1⟩, ⟨1, 2⟩, ⟨2, 2⟩]) (by simp) (fun q => by
    constructor
    · intro hq
      simp only [List.mem_cons, List.not_mem_nil, or_false] at hq
      rcases hq with rfl | rfl | rfl
      · rw [p11]; rfl
      · rw [p12]; rfl
      · rw [p22]; rfl
    · intro hq
      simp only [List.mem_cons, List.not_mem_nil, or_false]
      exact pall q hq)
  subst hN
  have hlen : ∀ ty, (Builtin.len_ #[65] ty #[.map (some qb)]).run Try.prog w3 = .ok (.int .i64 3) w3 := fun ty => len_G Try.underlying65 hQ
  have hl1 : (Instr.lookup 65 (.map (some qb)) (.agg #[.int .i64 1, .int .i64 1]) false).run Try.prog w3 = .ok (.int .i64 4611686018427387904) w3 := by
    have h3 := look_G Try.underlying65 hQ (x := ⟨1, 1⟩) ⟨okI_iff.2 (by decide), okI_iff.2 (by decide)⟩
    rw [p11] at h3
    exact h3
  have hl2 : (Instr.lookup 65 (.map (some qb)) (.agg #[.int .i64 1, .int .i64 2]) false).run Try.prog w3 = .ok (.int .i64 7) w3 := by
    have h3 := look_G Try.underlying65 hQ (x := ⟨1, 2⟩) ⟨okI_iff.2 (by decide), okI_iff.2 (by decide)⟩
    rw [p12] at h3
    exact h3
  have HE3 := Lib.hid (ext_trans HE2.out hE3)
  clear hQ hP hqb hE3 p11 p12 p22 pall
  go_wp2
  refine bodyPost_ret (results_tmp rfl _ _ _) rfl ?_
  exact ⟨rfl, HE3.out⟩
end Go.Proofs.Ytiabmdboacpmcaa
/- An edge taken away: what is left of a forest. -/
namespace Go.Proofs.Ytiabmdboacpmcaa
open Go Go.RowKit Go.Sort Go.WideMaps Go.Maps
set_option maxHeartbeats 1000000

def delG (E : Gr3) (k : Key) : Gr3 := fun k' => if k' = k then none else E k'
theorem delG_same (E : Gr3) (k : Key) : delG E k k = none := if_pos rfl
theorem delG_other {E : Gr3} {k k' : Key} (h : k' ≠ k) : delG E k k' = E k' := if_neg h
theorem delG_some {E : Gr3} {k k' : Key} {u : Int} : delG E k k' = some u ↔ k' ≠ k ∧ E k' = some u := by
  unfold delG
  split
  · rename_i h; simp [h]
  · rename_i h; simp [h]
theorem node_delG {E : Gr3} {k : Key} {n : Int} (h : isNode (delG E k) n) : isNode E n := by
  obtain ⟨k', u, h1, h2⟩ := h
  exact ⟨k', u, (delG_some.1 h1).2, h2⟩
/-- while the ends of an edge are gone through -/
structure DelF (E : Gr3) (k : Key) (es : List Int) (S : Int → Option Nat) (sub : Int → Key → Option Bool) : Prop where
  nodes : ∀ n, (S n).isSome = true ↔ isNode E n ∧ (n ∈ es → isNode (delG E k) n)
  sub : ∀ n k', (S n).isSome = true → sub n k' = if k' = k ∧ n ∈ es then none else subF E n k'
def subDel (sub : Int → Key → Option Bool) (n : Int) (k : Key) : Int → Key → Option Bool := fun x k' => if x = n then (if k' = k then none else sub n k') else sub x k'
def sDel (S : Int → Option Nat) (n : Int) : Int → Option Nat := fun x => if x = n then none else S x
theorem del_start {E : Gr3} {k : Key} {S : Int → Option Nat} (h : ∀ n, (S n).isSome = true ↔ isNode E n) : DelF E k [] S (subF E) :=
  ⟨fun n => by rw [h]; simp, fun n k' _ => by simp⟩
/-- a node's edges, but for the one -/
theorem del_sub {E : Gr3} {k : Key} {es : List Int} {S : Int → Option Nat} {sub : Int → Key → Option Bool} (h : DelF E k es S sub) {n : Int} (hn : (S n).isSome = true) (x : Key) : subDel sub n k n x = subF (delG E k) n x := by
  unfold subDel
  rw [if_pos rfl]
  by_cases e : x = k
  · rw [if_pos e]
    subst e
    unfold subF
    rw [delG_same]
    simp
  · rw [if_neg e, h.sub n x hn, if_neg (fun c => e c.1)]
    unfold subF
    rw [delG_other e]
/-- no edges: no node -/
theorem del_none {E : Gr3} {k : Key} {n : Int} (h : ∀ x, subF (delG E k) n x = none) : ¬ isNode (delG E k) n := fun hn => by
  obtain ⟨k', u, h1, h2⟩ := hn
  have := h k'
  unfold subF at this
  rw [if_pos ⟨by rw [h1]; rfl, h2⟩] at this
  cases this
theorem del_some {E : Gr3} {k : Key} {n : Int} {x : Key} (h : (subF (delG E k) n x).isSome = true) : isNode (delG E k) n := by
  unfold subF at h
  split at h
  · rename_i h1
    obtain ⟨u, hu⟩ := Option.isSome_iff_exists.1 h1.1
    exact ⟨x, u, hu, h1.2⟩
  · cases h
/-- the node stays -/
theorem del_stay {E : Gr3} {k : Key} {es : List Int} {S : Int → Option Nat} {sub : Int → Key → Option Bool} (h : DelF E k es S sub) {n : Int} (hn : isNode (delG E k) n) : DelF E k (es ++ [n]) S (subDel sub n k) := by
  refine ⟨fun x => ?_, fun x k' hx => ?_⟩
  · rw [h.nodes]
    constructor
    · rintro ⟨h1, h2⟩
      refine ⟨h1, fun hm => ?_⟩
      rcases List.mem_append.1 hm with h3 | h3
      · exact h2 h3
      · rw [List.mem_singleton.1 h3]; exact hn
    · rintro ⟨h1, h2⟩
      exact ⟨h1, fun hm => h2 (List.mem_append_left _ hm)⟩
  · unfold subDel
    by_cases e : x = n
    · subst e
      rw [if_pos rfl]
      by_cases ek : k' = k
      · rw [if_pos ek, if_pos ⟨ek, by simp⟩]
      · rw [if_neg ek, if_neg (fun c => ek c.1), h.sub x k' hx, if_neg (fun c => ek c.1)]
    · rw [if_neg e, h.sub x k' hx]
      simp [e]
/-- the node goes -/
theorem del_go {E : Gr3} {k : Key} {es : List Int} {S : Int → Option Nat} {sub : Int → Key → Option Bool} (h : DelF E k es S sub) {n : Int} (hn : ¬ isNode (delG E k) n) : DelF E k (es ++ [n]) (sDel S n) (subDel sub n k) := by
  refine ⟨fun x => ?_, fun x k' hx => ?_⟩
  · unfold sDel
    by_cases e : x = n
    · subst e
      rw [if_pos rfl]
      constructor
      · intro hc; cases hc
      · rintro ⟨_, h2⟩
        exact absurd (h2 (by simp)) hn
    · rw [if_neg e, h.nodes]
      simp [e]
  · unfold sDel at hx
    unfold subDel
    by_cases e : x = n
    · rw [if_pos e] at hx; cases hx
    · rw [if_neg e] at hx ⊢
      rw [h.sub x k' hx]
      simp [e]
theorem del_final {E : Gr3} {k : Key} {S : Int → Option Nat} {sub : Int → Key → Option Bool} (h : DelF E k [k.a, k.c] S sub) :
    (∀ n, (S n).isSome = true ↔ isNode (delG E k) n) ∧ ∀ n k', (S n).isSome = true → sub n k' = subF (delG E k) n k' := by
  refine ⟨fun n => ?_, fun n k' hn => ?_⟩
  · rw [h.nodes]
    constructor
    · rintro ⟨h1, h2⟩
      by_cases hm : n ∈ [k.a, k.c]
      · exact h2 hm
      · obtain ⟨k', u, h3, h4⟩ := h1
        have hne : k' ≠ k := fun e => by
          rw [e] at h4
          exact hm (by rcases h4 with h4 | h4 <;> rw [← h4] <;> simp)
        exact ⟨k', u, delG_some.2 ⟨hne, h3⟩, h4⟩
    · intro h1
      exact ⟨node_delG h1, fun _ => h1⟩
  · rw [h.sub n k' hn]
    by_cases e : k' = k
    · subst e
      have h0 : subF (delG E k') n k' = none := by
        unfold subF
        rw [delG_same]
        simp
      rw [h0]
      by_cases hm : n ∈ [k'.a, k'.c]
      · rw [if_pos ⟨rfl, hm⟩]
      · rw [if_neg (fun c => hm c.2)]
        unfold subF
        rw [if_neg]
        rintro ⟨_, h2⟩
        exact hm (by rcases h2 with h4 | h4 <;> rw [← h4] <;> simp)
    · rw [if_neg (fun c => e c.1)]
      unfold subF
      rw [delG_other e]
theorem mid_subDel {w0 w w' : World} {L : Loc} {room h : Int} {E : Gr3} {S : Int → Option Nat} {sub : Int → Key → Option Bool} {F : Nat → Prop} {n : Int} {sb : Nat} {k : Key} (H : MidH w0 L room h E S sub F w) (hn : S n = some sb) (hU : Upd (fun b => b = sb) w w') (hM : ∃ N, MapS sb N (fun z => if z = k then none else sub n z) w') : MidH w0 L room h E S (subDel sub n k) F w' ∧ (∀ N f, MapP L.bb N f w → MapP L.bb N f w') := by
  obtain ⟨N, h1⟩ := H.edges
  obtain ⟨M, h2⟩ := H.out
  obtain ⟨NN, hNN⟩ := H.sub n sb hn
  obtain ⟨c1, c2, c3⟩ := H.sne n sb hn
  have hpf : L.pf ≠ sb := mapG_off hNN H.blk
  refine ⟨⟨(hU.block _ (block_lt H.blk) hpf).trans H.blk, ⟨N, mapG_upd h1 hU (fun e => c1 e.symm)⟩, ⟨M, mapG_upd h2 hU (fun e => c2 e.symm)⟩, fun x c hx => ?_, H.ne, H.sne, H.sinj, H.low, ?_, H.own⟩, fun N f hP => mapG_upd hP hU (fun e => c3 e.symm)⟩
  · by_cases e : x = n
    · subst e
      rw [hn] at hx
      cases hx
      obtain ⟨N', h5⟩ := hM
      exact ⟨N', mapG_congr h5 (fun z => by simp [subDel]) rfl⟩
    · obtain ⟨N', h5⟩ := H.sub x c hx
      refine ⟨N', mapG_congr (mapG_upd h5 hU (fun e' => e (H.sinj x n sb (by rw [hx]; exact congrArg some e') hn))) (fun z => by simp [subDel, e]) rfl⟩
  · exact ext_of_upd (upd_trans (upd_of_ext H.ext) hU (fun i hi e => by have e' : i = sb := e; have := H.low.2.2.2.2 n sb hn; omega))
theorem mid_outDel {w0 w w' : World} {L : Loc} {room h : Int} {E : Gr3} {S : Int → Option Nat} {sub : Int → Key → Option Bool} {F : Nat → Prop} {n : Int} (H : MidH w0 L room h E S sub F w) (hU : Upd (fun b => b = L.bo) w w') (hM : ∃ N, MapO L.bo N (fun z => if z = n then none else (S z).map some) w') : MidH w0 L room h E (sDel S n) sub F w' ∧ (∀ N f, MapP L.bb N f w → MapP L.bb N f w') := by
  obtain ⟨N, h1⟩ := H.edges
  obtain ⟨M, h2⟩ := H.out
  have hpf : L.pf ≠ L.bo := mapG_off h2 H.blk
  have hs : ∀ x c, sDel S n x = some c → S x = some c := fun x c hx => by
    unfold sDel at hx
    split at hx
    · cases hx
    · exact hx
  refine ⟨⟨(hU.block _ (block_lt H.blk) hpf).trans H.blk, ⟨N, mapG_upd h1 hU H.ne.1⟩, ?_, fun x c hx => ?_, H.ne, fun x c hx => H.sne x c (hs x c hx), fun x x' c hx hx' => H.sinj x x' c (hs x c hx) (hs x' c hx'), ⟨H.low.1, H.low.2.1, H.low.2.2.1, H.low.2.2.2.1, fun x c hx => H.low.2.2.2.2 x c (hs x c hx)⟩, ?_, ⟨H.own.1, H.own.2.1, H.own.2.2.1, H.own.2.2.2.1, fun x c hx => H.own.2.2.2.2 x c (hs x c hx)⟩⟩, fun N f hP => mapG_upd hP hU (fun e => H.ne.2.2 e.symm)⟩
  · obtain ⟨N', h5⟩ := hM
    exact ⟨N', mapG_congr h5 (fun z => by unfold sDel; split <;> rfl) rfl⟩
  · obtain ⟨N', h5⟩ := H.sub x c (hs x c hx)
    exact ⟨N', mapG_upd h5 hU (H.sne x c (hs x c hx)).2.1⟩
  · exact ext_of_upd (upd_trans (upd_of_ext H.ext) hU (fun i hi e => by have e' : i = L.bo := e; have := H.low.2.2.1; omega))
/-- a map is without keys just if it has none -/
theorem mapG_zero {P : Program} {k e : TypeId} {α β : Type} [DecidableEq α] {K : KT P k α} {E : ET P e β} {b N : Nat} {f : α → Option β} {w : World} (h : MapG K E b N f w) : N = 0 ↔ ∀ x, f x = none := by
  obtain ⟨L, h1, h2, h3⟩ := mapG_keys h
  constructor
  · intro e x
    rw [e] at h3
    have hL := List.eq_nil_of_length_eq_zero h3
    cases hx : f x with
    | none => rfl
    | some c =>
      have := (h2 x).2 (by rw [hx]; rfl)
      rw [hL] at this
      cases this
  · intro hx
    rw [← h3]
    cases L with
    | nil => rfl
    | cons x L =>
      have := (h2 x).1 (List.mem_cons_self ..)
      rw [hx] at this
      cases this
end Go.Proofs.Ytiabmdboacpmcaa
