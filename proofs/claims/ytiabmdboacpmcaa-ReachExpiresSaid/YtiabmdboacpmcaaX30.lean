/- Texts joined: Ho Hp Hq Hr Hs. -/
import Derived.Test.YtiabmdboacpmcaaX29
import Derived.Test.YtiabmdboacpmcaaX20
import Derived.ChangeKeysEq
/- New, Len. -/
namespace Go.Proofs.Ytiabmdboacpmcaa
open Go Go.RowKit Go.Sort Go.WideMaps Go.Maps
set_option maxHeartbeats 4000000

def minI : Int := -9223372036854775808
/-- a path's machine -/
abbrev mvT (t : Tr) : List Mv := (gen t 1 0).moves
/-- a forest of a path: its machine was made by w0 -/
structure Fo (t : Tr) (w0 : World) (L : Loc) (room h : Int) (E : Gr3) (F : Nat → Prop) (w : World) : Prop where
  mach : ∃ W0, MachT W0 w0 L.pm t
  form : ForM w0 L room h E (mvT t) 0 F w
theorem fo_upd {t : Tr} {w0 w w' : World} {L : Loc} {room h : Int} {E : Gr3} {F fp : Nat → Prop} (H : Fo t w0 L room h E F w) (hU : Upd fp w w') (hn : ∀ b, F b ∨ b < w0.heap.size → ¬ fp b) : Fo t w0 L room h E F w' := ⟨H.mach, forM_upd H.form hU hn⟩
theorem fo_ext {t : Tr} {w0 w w' : World} {L : Loc} {room h : Int} {E : Gr3} {F : Nat → Prop} (H : Fo t w0 L room h E F w) (hE : Ext w w') : Fo t w0 L room h E F w' := ⟨H.mach, forM_ext H.form hE⟩
theorem fo_own {t : Tr} {w0 w : World} {L : Loc} {room h : Int} {E : Gr3} {F F' : Nat → Prop} (H : Fo t w0 L room h E F w) (hF : ∀ b, b < w.heap.size → F b → F' b) : Fo t w0 L room h E F' w := ⟨H.mach, forM_own H.form hF⟩
theorem fix_none (A : Auto) : FixB A (fun _ => none) (fun _ => none) := ⟨(fun x v h => by cases h), (fun n s hn => by obtain ⟨k, u, h, _⟩ := hn; cases h), (fun y v k u z h => by cases h)⟩
def NewTo (t : Tr) (room : Int) (w : World) (e : Ending) (w' : World) : Prop := ∃ w0 L, e = .returned (.tuple #[ptr L.pf, .int .i64 0]) ∧ Fo t w0 L room minI (fun _ => none) (fun b => w.heap.size ≤ b) w' ∧ Ext w w0 ∧ Ext w w'
set_option maxRecDepth 100000 in
theorem new_yes (t : Tr) (v : Value) (room : Int) (w : World) (hv : PV w t v) (hc : chk t = 0) (hr : 1 ≤ room ∧ room ≤ 10000) : Calls Try.prog 41 #[v, .int .i64 room] w (NewTo t room w) := by
  have HV := Lib.hid hv
  have CC := Lib.hid (fun w1 (hE : Ext w w1) => compile_yes t v w1 (PV_ext hv hE) hc)
  obtain ⟨kd, nn, A0, n0, c0, rfl⟩ : ∃ k n A l c, v = .agg #[.int .i64 k, .int .i64 n, .slice A l c] := by
    obtain ⟨k, n, ps⟩ := t
    obtain ⟨s, rfl, hs⟩ := hv
    obtain ⟨A, c, rfl⟩ := PS_form hs
    exact ⟨k, n, A, _, c, rfl⟩
  have HR := Lib.hid hr
  have hr1 : ¬ room < 1 := by omega
  have hr2 : ¬ (10000 : Int) < room := by omega
  have hE0 := ext_alloc (ext_refl w) (.cells #[.int .i64 kd, .int .i64 nn, .slice A0 n0 c0] 30)
  have HE0 := Lib.hid hE0
  have hmm := @run_makeMap Try.prog
  clear hv hc hr hE0
  go_enter Try.func41, Try.ntmps41
  go_wp2_with fail
  refine (CC.out _ HE0.out).mono ?_
  rintro e w2 ⟨pm, rfl, hM, hE2⟩
  have HM := Lib.hid hM
  have HE2 := Lib.hid (ext_trans HE0.out hE2)
  have HEE := Lib.hid hE2
  clear hM hE2
  have hd1 : decide (room < 1) = false := decide_eq_false (by omega)
  have hd2 : decide ((10000 : Int) < room) = false := decide_eq_false (by omega)
  have HF := Lib.hid (show ∀ w9, w9 = ((((w2.alloc (.map #[] 0)).alloc (.map #[] 0)).alloc (.map #[] 0)).alloc (.cells #[ptr pm, .int .i64 room, .int .i64 (-9223372036854775808), .map (some w2.heap.size), .map (some (w2.heap.size + 1)), .map (some (w2.heap.size + 1 + 1))] 122)) → NewTo t room w (.returned (.tuple #[ptr (w2.heap.size + 1 + 1 + 1), .int .i64 0])) w9 from fun w9 h9 => by
    have e1 : Ext w2 (w2.alloc (.map #[] 0)) := ext_alloc (ext_refl _) _
    have e2 : Ext (w2.alloc (.map #[] 0)) ((w2.alloc (.map #[] 0)).alloc (.map #[] 0)) := ext_alloc (ext_refl _) _
    have e3 : Ext ((w2.alloc (.map #[] 0)).alloc (.map #[] 0)) (((w2.alloc (.map #[] 0)).alloc (.map #[] 0)).alloc (.map #[] 0)) := ext_alloc (ext_refl _) _
    have e4 : Ext (((w2.alloc (.map #[] 0)).alloc (.map #[] 0)).alloc (.map #[] 0)) w9 := by rw [h9]; exact ext_alloc (ext_refl _) _
    have m1 := mapG_ext (mapG_made kK eI w2) (ext_trans e2 (ext_trans e3 e4))
    have m2 := mapG_ext (mapG_made kI eM (w2.alloc (.map #[] 0))) (ext_trans e3 e4)
    have m3 := mapG_ext (mapG_made kP eI ((w2.alloc (.map #[] 0)).alloc (.map #[] 0))) e4
    simp only [World.size_alloc] at m1 m2 m3
    have hsz := ext_size HE2.out
    have hb := heap_alloc_new (((w2.alloc (.map #[] 0)).alloc (.map #[] 0)).alloc (.map #[] 0)) (.cells #[ptr pm, .int .i64 room, .int .i64 (-9223372036854775808), .map (some w2.heap.size), .map (some (w2.heap.size + 1)), .map (some (w2.heap.size + 1 + 1))] 122)
    rw [← h9] at hb
    simp only [World.size_alloc] at hb
    have hall := ext_trans e1 (ext_trans e2 (ext_trans e3 e4))
    refine ⟨w2, ⟨pm, w2.heap.size + 1 + 1 + 1, w2.heap.size, w2.heap.size + 1, w2.heap.size + 1 + 1⟩, rfl, ⟨⟨_, HM.out⟩, ⟨fun _ => none, fun _ => none, ⟨hb, ⟨_, m1⟩, ⟨_, m2⟩, (fun n b h => by cases h), ⟨by simp, by simp; omega, by simp⟩, (fun n b h => by cases h), (fun n n' b h => by cases h), ⟨by simp; omega, by simp, by simp, by simp; omega, (fun n b h => by cases h)⟩, hall, ⟨by simp; omega, by simp; omega, by simp; omega, by simp; omega, (fun n b h => by cases h)⟩⟩, ⟨_, m3⟩, fix_none _, fun n => ⟨(fun h => by cases h), (fun h => by obtain ⟨k, u, h, _⟩ := h; cases h)⟩⟩⟩, HE2.out, ext_trans HE2.out hall⟩)
  go_wp2
  go_ret2
  exact HF.out _ rfl
theorem len_any (t : Tr) (w0 : World) (L : Loc) (room h : Int) (E : Gr3) (F : Nat → Prop) (ks : List Key) (w : World) (H : Fo t w0 L room h E F w) (hC : Card E ks) :
    Calls Try.prog 47 #[ptr L.pf] w fun e w' => e = .returned (.int .i64 (ks.length : Int)) ∧ w' = w := by
  obtain ⟨S, f, hM, _⟩ := H.form.ex
  obtain ⟨N, hN⟩ := hM.edges
  have HL := Lib.hid (card_len hC hN)
  have q3 := block_cell hM.blk 3
  have l0 := block_lt hM.blk
  have hlen : ∀ ty, (Builtin.len_ #[95] ty #[.map (some L.be)]).run Try.prog w = .ok (.int .i64 (N : Int)) w := fun ty => len_G Try.underlying95 hN
  clear H hC hM hN
  go_enter Try.func47, Try.ntmps47
  go_wp2
  refine bodyPost_ret (results_tmp rfl _ _ _) rfl ?_
  exact ⟨by rw [← HL.out]; rfl, rfl⟩
end Go.Proofs.Ytiabmdboacpmcaa
/- Pairs. -/
namespace Go.Proofs.Ytiabmdboacpmcaa
open Go Go.RowKit Go.Sort Go.WideMaps Go.Maps
set_option maxHeartbeats 4000000

abbrev enT (t : Tr) : Nat := (gen t 1 0).last
/-- pairs of places that have come -/
def prD (f : Bst) (en : Nat) (done : List Key) : Prs := fun q => if (⟨q.a, q.b, (en : Int)⟩ : Key) ∈ done then f ⟨q.a, q.b, (en : Int)⟩ else none
theorem prD_other {f : Bst} {en : Nat} {done : List Key} {x : Key} (h : x.c ≠ (en : Int)) : prD f en (done ++ [x]) = prD f en done := by
  funext q
  unfold prD
  have : (⟨q.a, q.b, (en : Int)⟩ : Key) ≠ x := fun e => h (by rw [← e])
  simp [this]
theorem prD_same {f : Bst} {en : Nat} {done : List Key} {a b v : Int} (hv : f ⟨a, b, (en : Int)⟩ = some v) : ∀ q, prD f en (done ++ [⟨a, b, (en : Int)⟩]) q = if q = ⟨a, b⟩ then some v else prD f en done q := fun q => by
  obtain ⟨qa, qb⟩ := q
  unfold prD
  by_cases e : (⟨qa, qb⟩ : Two) = ⟨a, b⟩
  · cases e
    rw [if_pos (by simp), if_pos rfl, hv]
  · rw [if_neg e]
    have : (⟨qa, qb, (en : Int)⟩ : Key) ≠ ⟨a, b, (en : Int)⟩ := fun h => e (by cases h; rfl)
    simp [this]
theorem prD_new {f : Bst} {en : Nat} {done : List Key} {a b : Int} (h : (⟨a, b, (en : Int)⟩ : Key) ∉ done) : prD f en done ⟨a, b⟩ = none := if_neg h
theorem prD_all {f : Bst} {en : Nat} {done : List Key} (h : ∀ x, (f x).isSome = true → x ∈ done) : prD f en done = fun q => f ⟨q.a, q.b, (en : Int)⟩ := by
  funext q
  unfold prD
  split
  · rfl
  · rename_i hn
    cases hf : f ⟨q.a, q.b, (en : Int)⟩ with
    | none => rfl
    | some v => exact absurd (h _ (by rw [hf]; rfl)) hn
theorem nodupK_le : ∀ {L M : List Key}, L.Nodup → (∀ x ∈ L, x ∈ M) → L.length ≤ M.length
  | [], _, _, _ => Nat.zero_le _
  | x :: L, M, hL, h => by
    obtain ⟨h1, h2⟩ := List.nodup_cons.1 hL
    have hx := h x (List.mem_cons_self ..)
    have := nodupK_le (M := M.erase x) h2 (fun y hy => (List.mem_erase_of_ne (a := y) (b := x) (fun (e : y = x) => h1 (by rw [← e]; exact hy))).2 (h y (List.mem_cons_of_mem _ hy)))
    rw [List.length_erase_of_mem hx] at this
    have := List.length_pos_of_mem hx
    rw [List.length_cons]
    omega
def PairsTo (t : Tr) (E : Gr3) (w : World) (e : Ending) (w' : World) : Prop := ∃ qb N p, e = .returned (.map (some qb)) ∧ MapQ qb N p w' ∧ PrsOf (Words t) E p ∧ w.heap.size ≤ qb ∧ Ext w w'
set_option maxRecDepth 100000 in
theorem pairs_any (t : Tr) (w0 : World) (L : Loc) (room h : Int) (E : Gr3) (F : Nat → Prop) (ks : List Key) (w : World) (H : Fo t w0 L room h E F w) (hC : Card E ks) (hkl : ks.length ≤ 100) :
    Calls Try.prog 38 #[ptr L.pf] w (PairsTo t E w) := by
  obtain ⟨W0, hMT⟩ := H.mach
  have hMa := machT_mach hMT
  obtain ⟨S, f, hMid, hBest, hFix, -⟩ := H.form.ex
  obtain ⟨NP, hNP⟩ := hBest
  have hst : ∀ x v, f x = some v → ∃ i : Nat, i < (gen t 1 0).many ∧ x.c = (i : Int) := fun x v hv => der_state (hFix.sound x v hv) hMa.dst hMa.lt
  have hmb := hMa.hm
  have HNPB := Lib.hid (show NP ≤ 100000000 from by
    obtain ⟨P, hP1, hP2⟩ := places_of E (gen t 1 0).many ks hmb (fun k hk => (hC.mem k).2 hk) hkl
    exact Nat.le_trans (mapG_le hNP (fun x hx => by
      obtain ⟨v, hv⟩ := Option.isSome_iff_exists.1 hx
      have hd := hFix.sound x v hv
      exact (hP2 x).2 ⟨(der_nodes hd).1, (der_nodes hd).2, hst x v hv⟩)) hP1)
  obtain ⟨W, hW⟩ : ∃ W, W = w.alloc (.map #[] 0) := ⟨_, rfl⟩
  have hE0 : Ext w W := by rw [hW]; exact ext_alloc (ext_refl _) _
  obtain ⟨qb, hqb⟩ : ∃ b, b = w.heap.size := ⟨_, rfl⟩
  have hQ : MapQ qb 0 (fun _ => none) W := by rw [hW, hqb]; exact mapG_made kQ eI w
  have HQ := Lib.hid hQ
  have HE0 := Lib.hid hE0
  have HST := Lib.hid hst
  have HNP := Lib.hid (mapG_ext hNP hE0)
  have HFIX := Lib.hid (show PrsOf (Words t) E (fun p => f ⟨p.a, p.b, (enT t : Int)⟩) from prsOf_fix hFix (fun u => machT_words hMT u))
  have HBLK := Lib.hid ((ext_block hE0 (block_lt hMid.blk)).trans hMid.blk)
  have HMA := Lib.hid (show ∀ w', Ext w w' → Mach W0 L.pm (gen t 1 0).many 0 (enT t : Int) (mvT t) w' from fun w' h' => mach_ext hMa (ext_trans hMid.ext h'))
  have HW := Lib.hid (And.intro hW hqb)
  have hbq : L.bb ≠ qb := fun e => by have := mapG_lt hNP; omega
  have HBQ := Lib.hid hbq
  have q5 : (w.alloc (.map #[] 0)).cell? ⟨L.pf, 5, none⟩ = some (.map (some L.bb)) := by rw [← hW]; exact block_cell HBLK.out 5
  have l0 : L.pf < (w.alloc (.map #[] 0)).heap.size := by rw [← hW]; exact block_lt HBLK.out
  have hmm := @run_makeMap Try.prog
  obtain ⟨mm, hmmm⟩ : ∃ mm, mm = (gen t 1 0).many := ⟨_, rfl⟩
  rw [← hmmm] at HST HMA hmb
  obtain ⟨en, hen⟩ : ∃ en, en = enT t := ⟨_, rfl⟩
  rw [← hen] at HFIX HMA
  clear H hMT hMa hMid hFix hNP hst hE0 hQ hW hqb hbq hmmm hen
  go_enter Try.func38, Try.ntmps38
  go_wp2_with (first
    | (at_range; rw [← HW.out.1]; refine wpList_range_G _ rfl _ _ rfl Try.underlying120 rfl HNP.out ?_; intro w2 r hr0; have HLR := Lib.hid hr0; clear hr0; intro hrng hE2 hs2)
    | go_in)
  rw [← HW.out.2]
  have HRN := Lib.hid hrng
  have HE2 := Lib.hid hE2
  clear hrng hE2 hs2 q5 l0 hmm
  go_simp
  go_loopw [4] (fun _ wn => ∃ (done : List Key), RngG kP eI L.bb r NP f done wn ∧ (∃ N, MapQ qb N (prD f en done) wn) ∧ Upd (fun b => b = qb) W wn) (fun _ wn => wn.rangeLeft L.bb r)
  case atStart => exact ⟨[], HRN.out, ⟨0, mapG_congr (mapG_ext HQ.out HE2.out) (fun q => by simp [prD]) rfl⟩, upd_of_ext HE2.out⟩
  case round =>
    rename World => wn
    obtain ⟨done, hR, ⟨NQ, hQ⟩, hU⟩ := hrel
    have HR := Lib.hid hR
    have HQN := Lib.hid hQ
    have HU := Lib.hid hU
    clear hR hQ hU
    go_wp2_with (first
      | (at_next; refine wpList_next_G wn rfl _ rfl rfl HR.out ?_ ?_)
      | go_in)
    · intro hall
      have HF := Lib.hid (show PairsTo t E w (.returned (.map (some qb))) wn from ⟨qb, NQ, _, rfl, HQN.out, by rw [prD_all hall]; exact HFIX.out, by rw [HW.out.2]; exact Nat.le_refl _, ext_of_upd (upd_trans (upd_of_ext HE0.out) HU.out (fun i hi e => absurd hi (by have e' : i = qb := e; have := HW.out.2; omega)))⟩)
      clear hall
      go_wp2
      refine bodyPost_ret (results_tmp rfl _ _ _) rfl ?_
      exact HF.out
    · intro x lasts w3 hfx hnx hR3 hlt3 hg3 hs3 hent
      rw [show kP.val x = .agg #[.int .i64 x.a, .int .i64 x.b, .int .i64 x.c] from rfl, show eI.val lasts = .int .i64 lasts from rfl] at hent ⊢
      obtain ⟨i, him, hxi⟩ := HST.out x lasts hfx
      obtain ⟨xa, xb, xc⟩ := x
      simp only at hxi
      subst hxi
      have hU3 := upd_grown hg3
      have hrW : W.heap.size ≤ r := by rw [HLR.out]; exact Nat.le_refl _
      have hrq : r ≠ qb := fun e => by have := mapG_lt HQ.out; omega
      obtain ⟨wa, hwa⟩ : ∃ x', x' = w3.alloc (.cells #[.int .i64 xa, .int .i64 xb, .int .i64 (i : Int)] 124) := ⟨_, rfl⟩
      have hEa : Ext w3 wa := by rw [hwa]; exact ext_alloc (ext_refl _) _
      obtain ⟨bx, hbx⟩ : ∃ b, b = w3.heap.size := ⟨_, rfl⟩
      have hxa : wa.heap[bx]? = some (.cells #[.int .i64 xa, .int .i64 xb, .int .i64 (i : Int)] 124 (0, 0)) := by rw [hwa, hbx]; exact heap_alloc_new _ _
      have hUa : Upd (fun b => b = qb) W wa := upd_trans (upd_trans HU.out hU3 (fun j hj e => absurd hj (by have h5 : r = j := Option.some.inj e; omega))) (upd_of_ext (fp := fun _ => False) hEa) (fun _ _ h => h.elim)
      have HUA := Lib.hid hUa
      have HRA := Lib.hid (rngG_ext hR3 hEa)
      have HLA := Lib.hid (show wa.rangeLeft L.bb r < wn.rangeLeft L.bb r by rw [left_ext hR3 hEa]; exact hlt3)
      have HQA := Lib.hid (mapG_ext (mapG_upd HQN.out hU3 (fun e => hrq (Option.some.inj e))) hEa)
      have HXA := Lib.hid hxa
      have HRQ := Lib.hid hrq
      have HFX := Lib.hid hfx
      have HNX := Lib.hid hnx
      have HWA := Lib.hid (show Ext w wa from ext_of_upd (upd_trans (upd_of_ext HE0.out) hUa (fun j hj e => absurd hj (by have e' : j = qb := e; have := HW.out.2; omega))))
      have HBX := Lib.hid hbx
      clear hfx hnx hR3 hlt3 hg3 hs3 hU3 hrW hrq hEa hxa hUa hbx
      have hblka := (HUA.out.block L.pf (block_lt HBLK.out) (fun e => mapG_off HQ.out HBLK.out e)).trans HBLK.out
      have HBLKA := Lib.hid hblka
      clear hblka
      have up0 : ∀ w', Ext wa w' → w'.cell? ⟨L.pf, 0, none⟩ = some (ptr L.pm) := fun w' h => block_cell ((ext_block h (block_lt HBLKA.out)).trans HBLKA.out) 0
      have upl : ∀ w', Ext wa w' → L.pf < w'.heap.size := fun w' h => ext_lt h (block_lt HBLKA.out)
      have ux2 : ∀ w', Ext wa w' → w'.cell? ⟨bx, 2, none⟩ = some (.int .i64 (i : Int)) := fun w' h => block_cell ((ext_block h (block_lt HXA.out)).trans HXA.out) 2
      have uxl : ∀ w', Ext wa w' → bx < w'.heap.size := fun w' h => ext_lt h (block_lt HXA.out)
      go_wp2
      rw [← hwa]
      clear hwa hent
      rw [← HBX.out]
      refine wp_region_line ext_wR [] [(0, false, (fun v => v = ptr L.pf), fun _ _ => True), (1, false, (fun v => v = ptr L.pf), fun _ _ => True), (2, false, (fun v => v = ptr L.pf), fun _ _ => True), (3, false, (fun v => v = ptr L.pm), fun _ _ => True), (4, false, (fun v => v = (.pointer (some ⟨bx, 2, none⟩))), fun _ _ => True), (5, false, (fun v => v = (.int .i64 (i : Int))), fun _ _ => True), (6, false, (fun _ => True), fun v w0 => RdN w0 v [i]), (7, false, (fun v => v = (.bool (decide (en ∈ [i])))), fun _ _ => True)] [8] [0, 1, 2, 3, 4, 5, 6, 7] rfl (by kernel_rfl) (by kernel_rfl) (fun _ _ d _ _ h => by cases d <;> exact h) ?_
      refine wpPre_nil ?_
      refine wpGl_pure1 (fun _ _ _ h h1 w' hw hs => h1 w' hw (h _ hs)) rfl (fun w6 hE6 hS6 => ?_) (fun K hK => ?_)
      · simp only [opAtL, runsAt]
        go_simp
        all_goals (first | exact ⟨ext_refl _, rfl⟩ | exact ext_refl _ | rfl | trivial)
      go_simp
      refine hK _ ?_
      clear hK K
      refine wpGl_pure1 (fun _ _ _ h h1 w' hw hs => h1 w' hw (h _ hs)) rfl (fun w6 hE6 hS6 => ?_) (fun K hK => ?_)
      · simp only [opAtL, runsAt]
        go_simp
        all_goals (first | exact ⟨ext_refl _, rfl⟩ | exact ext_refl _ | rfl | trivial)
      go_simp
      refine hK _ ?_
      clear hK K
      refine wpGl_pure1 (fun _ _ _ h h1 w' hw hs => h1 w' hw (h _ hs)) rfl (fun w6 hE6 hS6 => ?_) (fun K hK => ?_)
      · simp only [opAtL, runsAt]
        go_simp
        all_goals (first | exact ⟨ext_refl _, rfl⟩ | exact ext_refl _ | rfl | trivial)
      go_simp
      refine hK _ ?_
      clear hK K
      refine wpGl_pure1 (fun _ _ _ h h1 w' hw hs => h1 w' hw (h _ hs)) rfl (fun w6 hE6 hS6 => ?_) (fun K hK => ?_)
      · have q0 := up0 w6 hE6
        have q1 := upl w6 hE6
        simp only [opAtL, runsAt]
        go_simp
        all_goals (first | exact ⟨ext_refl _, rfl⟩ | exact ext_refl _ | rfl | trivial)
      go_simp
      refine hK _ ?_
      clear hK K
      refine wpGl_pure1 (fun _ _ _ h h1 w' hw hs => h1 w' hw (h _ hs)) rfl (fun w6 hE6 hS6 => ?_) (fun K hK => ?_)
      · simp only [opAtL, runsAt]
        go_simp
        all_goals (first | exact ⟨ext_refl _, rfl⟩ | exact ext_refl _ | rfl | trivial)
      go_simp
      refine hK _ ?_
      clear hK K
      refine wpGl_pure1 (fun _ _ _ h h1 w' hw hs => h1 w' hw (h _ hs)) rfl (fun w6 hE6 hS6 => ?_) (fun K hK => ?_)
      · have q0 := ux2 w6 hE6
        have q1 := uxl w6 hE6
        simp only [opAtL, runsAt]
        go_simp
        all_goals (first | exact ⟨ext_refl _, rfl⟩ | exact ext_refl _ | rfl | trivial)
      go_simp
      refine hK _ ?_
      clear hK K
      refine wpGl_step1 rfl (fun v a b hE h => rdN_ext h hE) ⟨undef, trivial⟩ (fun w6 hE6 hS6 => ?_) (fun v6 _ K hK => ?_)
      · simp only [opAtL, runsAt]
        go_simp
        refine ⟨ext_alloc (ext_refl _) _, _, _, rfl, Nat.le_refl _, fun _ => ⟨w6.heap.size, 0, rfl, by simp, fun j y hy => ?_⟩⟩
        have hb6 := heap_alloc_new w6 (.cells #[.int .i64 (i : Int)] 3)
        cases j with
        | zero => cases hy; exact block_cell hb6 0
        | succ j => simp at hy
      go_simp
      refine hK _ ?_
      clear hK K
      refine wpGl_pure1 (fun _ _ _ h h1 w' hw hs => h1 w' hw (h _ hs)) rfl (fun w6 hE6 hS6 => ?_) (fun K hK => ?_)
      · have hrd := hS6 _ (List.mem_cons_self ..) (by kernel_rfl)
        simp only [opAtL, runsAt]
        go_simp
        refine (final_any W0 w6 L.pm mm 0 en (mvT t) v6 [i] (HMA.out w6 (ext_trans HWA.out hE6)) hrd (by simp)).mono ?_
        rintro e w7 ⟨rfl, rfl⟩
        first | exact ⟨rfl, ext_refl _⟩ | exact ⟨_, rfl, ext_refl _, rfl⟩ | exact ⟨by simp, ext_refl _⟩
      go_simp
      refine hK _ ?_
      clear hK K
      refine wpGl_nil (fun w6 hE6 hS6 => ?_)
      clear hS6 ux2 uxl up0 upl
      have HE6 := Lib.hid hE6
      have HX6 := Lib.hid ((ext_block hE6 (block_lt HXA.out)).trans HXA.out)
      have HR6 := Lib.hid (rngG_ext HRA.out hE6)
      have HL6 := Lib.hid (show w6.rangeLeft L.bb r < wn.rangeLeft L.bb r by rw [left_ext HRA.out hE6]; exact HLA.out)
      have HQ6 := Lib.hid (mapG_ext HQA.out hE6)
      have HU6 := Lib.hid (upd_trans HUA.out (upd_of_ext (fp := fun _ => False) hE6) (fun _ _ h => h.elim))
      clear hE6
      refine wpSeq_of_list [8] [_] _ _ rfl ?_
      by_cases hfin : en = i
      · subst hfin
        have hd : decide (en ∈ [en]) = true := by simp
        have x0 := block_cell HX6.out 0
        have x1 := block_cell HX6.out 1
        have lx := block_lt HX6.out
        obtain ⟨wc, hwc⟩ : ∃ wc, wc = w6.alloc (.cells #[.int .i64 xa, .int .i64 xb] 68) := ⟨_, rfl⟩
        have hEc : Ext w6 wc := by rw [hwc]; exact ext_alloc (ext_refl _) _
        have hok : ok2 ⟨xa, xb⟩ := by
          have h5 := (mapG_out (rngG_map HR6.out) HFX.out).1
          exact ⟨h5.1, h5.2.1⟩
        have hlok : okI lasts := (mapG_out (rngG_map HR6.out) HFX.out).2
        have hlk : (Instr.lookup 65 (.map (some qb)) (.agg #[.int .i64 xa, .int .i64 xb]) true).run Try.prog (w6.alloc (.cells #[.int .i64 xa, .int .i64 xb] 68)) = .ok (.tuple #[.int .i64 0, .bool false]) (w6.alloc (.cells #[.int .i64 xa, .int .i64 xb] 68)) := by
          have h3 := look2_G Try.underlying65 (mapG_ext HQ6.out hEc) (x := ⟨xa, xb⟩) hok
          rw [prD_new HNX.out, hwc] at h3
          exact h3
        have hNb : NQ ≤ NP := by
          have hcard := mapG_keys HQ6.out
          obtain ⟨X, hX1, hX2, hX3⟩ := hcard
          obtain ⟨Y, hY1, hY2, hY3⟩ := mapG_keys (rngG_map HR6.out)
          rw [← hX3, ← hY3]
          have h8 : (X.map fun q : Two => (⟨q.a, q.b, (en : Int)⟩ : Key)).Nodup := List.pairwise_map.2 (hX1.imp (fun {p q} hne e => hne (by
            obtain ⟨p1, p2⟩ := p
            obtain ⟨q1, q2⟩ := q
            simp only [Key.mk.injEq] at e
            rw [e.1, e.2.1])))
          have h9 := nodupK_le h8 (M := Y) (fun z hz => by
            obtain ⟨q, hq, rfl⟩ := List.mem_map.1 hz
            rw [hY2]
            have h10 := (hX2 q).1 hq
            unfold prD at h10
            split at h10
            · exact h10
            · cases h10)
          rw [List.length_map] at h9
          exact h9
        obtain ⟨w7, hup, hQ7, hg7⟩ := store_G (t := 65) Try.underlying65 (mapG_ext HQ6.out hEc) (by have := HNPB.out; unfold maxLen; omega) (x := ⟨xa, xb⟩) hok (c := lasts) hlok
        have hup' : (Instr.mapUpdate 65 (.map (some qb)) (.agg #[.int .i64 xa, .int .i64 xb]) (.int .i64 lasts)).run Try.prog (w6.alloc (.cells #[.int .i64 xa, .int .i64 xb] 68)) = .ok () w7 := by
          rw [← hwc]
          exact hup
        have hU7 := upd_mono (upd_grown hg7) (fp' := fun b => b = qb) (fun j _ e => (Option.some.inj e).symm)
        have hUU := upd_trans (upd_of_ext (fp := fun b => b = qb) hEc) hU7 (fun _ _ h => h)
        have HH1 := Lib.hid (show RngG kP eI L.bb r NP f (done ++ [⟨xa, xb, (en : Int)⟩]) w7 from rngG_upd HR6.out hUU HBQ.out HRQ.out)
        have HH2 := Lib.hid (show ∃ N, MapQ qb N (prD f en (done ++ [⟨xa, xb, (en : Int)⟩])) w7 from ⟨_, mapG_congr hQ7 (fun q => by rw [prD_same HFX.out]) rfl⟩)
        have HH3 := Lib.hid (upd_trans HU6.out hUU (fun _ _ h => h))
        have HH4 := Lib.hid (show w7.rangeLeft L.bb r < wn.rangeLeft L.bb r by rw [left_upd HR6.out hUU HBQ.out HRQ.out]; exact HL6.out)
        clear hwc hEc hok hlok hNb hup hQ7 hg7 hU7 hUU
        go_wp2
        go_roundw
        case rel => exact ⟨_, HH1.out, HH2.out, HH3.out⟩
        case measure => exact HH4.out
      · have hd : decide (en ∈ [i]) = false := by simpa using hfin
        have hd' : decide (en = i) = false := by simpa using hfin
        have hd2 : (en == i) = false := by simpa using hfin
        have HH2 := Lib.hid (show ∃ N, MapQ qb N (prD f en (done ++ [⟨xa, xb, (i : Int)⟩])) w6 from ⟨NQ, by rw [prD_other (by simp only; omega)]; exact HQ6.out⟩)
        clear hfin
        go_wp2
        go_roundw
        case rel => exact ⟨_, HR6.out, HH2.out, HU6.out⟩
        case measure => exact HL6.out
end Go.Proofs.Ytiabmdboacpmcaa
/- Rows of edges; the document's Add. -/
namespace Go.Proofs.Ytiabmdboacpmcaa
open Go Go.RowKit Go.Sort Go.WideMaps Go.Maps
set_option maxHeartbeats 4000000

/-- an edge of the document -/
abbrev Ed := Key × Int
def elDr : El Ed := ⟨fun p => [.int .i64 p.1.a, .int .i64 p.1.b, .int .i64 p.1.c, .int .i64 p.2], 4, 75, by decide, fun _ => rfl, fun x u hu => by
  rcases List.mem_cons.1 hu with rfl | hu
  · rfl
  · rcases List.mem_cons.1 hu with rfl | hu
    · rfl
    · rcases List.mem_cons.1 hu with rfl | hu
      · rfl
      · rw [List.mem_singleton.1 hu]; rfl⟩
noncomputable def tpDr : Tp Try.prog 62 elDr := ⟨(Try.prog.info? 75).get (by kernel_rfl), .agg #[.int .i64 0, .int .i64 0, .int .i64 0, .int .i64 0], 32, Try.underlying62, by kernel_rfl, by kernel_rfl, by kernel_rfl, by kernel_rfl, rfl, by decide⟩
def addL : List Ed → Key → Int → List Ed
  | [], k, u => [(k, u)]
  | e :: L, k, u => if e.1 = k then (e.1, if e.2 < u then u else e.2) :: L else e :: addL L k u
theorem addL_none : ∀ {L : List Ed} {k : Key} {u : Int}, (∀ e ∈ L, e.1 ≠ k) → addL L k u = L ++ [(k, u)]
  | [], _, _, _ => rfl
  | e :: L, k, u, h => by
    rw [addL, if_neg (h e (List.mem_cons_self ..)), addL_none (fun x hx => h x (List.mem_cons_of_mem _ hx))]
    rfl
theorem addL_at : ∀ {L : List Ed} {k : Key} {u : Int} {i : Nat} {e : Ed}, L[i]? = some e → e.1 = k → (∀ (j : Nat) (x : Ed), j < i → L[j]? = some x → x.1 ≠ k) → addL L k u = L.set i (e.1, if e.2 < u then u else e.2)
  | [], _, _, _, _, h, _, _ => by simp at h
  | x :: L, k, u, 0, e, h, he, _ => by
    simp at h
    subst h
    rw [addL, if_pos he]
    rfl
  | x :: L, k, u, i + 1, e, h, he, hb => by
    rw [addL, if_neg (hb 0 x (by omega) rfl), addL_at (i := i) (by simpa using h) he (fun j y hj hy => hb (j + 1) y (by omega) (by simpa using hy))]
    rfl
/-- as a map -/
def grOf (L : List Ed) : Gr3 := fun k => (L.find? fun e => decide (e.1 = k)).map (·.2)
def KeysNd (L : List Ed) : Prop := (L.map (·.1)).Nodup
theorem grOf_nil : grOf [] = fun _ => none := rfl
theorem grOf_cons (e : Ed) (L : List Ed) (k : Key) : grOf (e :: L) k = if e.1 = k then some e.2 else grOf L k := by
  unfold grOf
  rw [List.find?_cons]
  by_cases h : e.1 = k
  · simp [h]
  · simp [h]
theorem grOf_some : ∀ {L : List Ed} {k : Key} {u : Int}, KeysNd L → (grOf L k = some u ↔ (k, u) ∈ L)
  | [], k, u, _ => by simp [grOf]
  | e :: L, k, u, h => by
    have h' : KeysNd L := (List.nodup_cons.1 h).2
    have hno := (List.nodup_cons.1 h).1
    rw [grOf_cons]
    by_cases he : e.1 = k
    · rw [if_pos he]
      constructor
      · intro e1
        cases e1
        rw [← he]
        exact List.mem_cons_self ..
      · intro hm
        rcases List.mem_cons.1 hm with h1 | h1
        · rw [← h1]
        · exact absurd (List.mem_map.2 ⟨_, h1, he.symm⟩) hno
    · rw [if_neg he, grOf_some h']
      constructor
      · exact fun h1 => List.mem_cons_of_mem _ h1
      · intro hm
        rcases List.mem_cons.1 hm with h1 | h1
        · rw [← h1] at he; exact absurd rfl he
        · exact h1
theorem grOf_isSome : ∀ {L : List Ed} {k : Key}, (grOf L k).isSome = true ↔ k ∈ L.map (·.1)
  | [], k => by simp [grOf]
  | e :: L, k => by
    rw [grOf_cons]
    by_cases he : e.1 = k
    · simp [he]
    · rw [if_neg he, grOf_isSome]
      simp [Ne.symm he]
theorem card_of {L : List Ed} (h : KeysNd L) : Card (grOf L) (L.map (·.1)) := ⟨h, fun _k => grOf_isSome.symm⟩
theorem addL_keys : ∀ {L : List Ed} {k : Key} {u : Int}, (addL L k u).map (·.1) = if k ∈ L.map (·.1) then L.map (·.1) else L.map (·.1) ++ [k]
  | [], k, u => by simp [addL]
  | e :: L, k, u => by
    rw [addL]
    by_cases he : e.1 = k
    · simp [he]
    · rw [if_neg he, List.map_cons, addL_keys]
      by_cases hm : k ∈ L.map (·.1)
      · rw [if_pos hm, if_pos (by simp [hm])]
        rfl
      · rw [if_neg hm, if_neg (by simp only [List.map_cons, List.mem_cons, not_or]; exact ⟨fun c => he c.symm, hm⟩)]
        rfl
theorem addL_nd {L : List Ed} {k : Key} {u : Int} (h : KeysNd L) : KeysNd (addL L k u) := by
  unfold KeysNd
  rw [addL_keys]
  split
  · exact h
  · rename_i hm
    exact List.nodup_append.2 ⟨h, by simp, fun a ha b hb => by rw [List.mem_singleton.1 hb]; exact fun e => hm (e ▸ ha)⟩
theorem addL_len (L : List Ed) (k : Key) (u : Int) : (addL L k u).length ≤ L.length + 1 := by
  have h := congrArg List.length (addL_keys (L := L) (k := k) (u := u))
  rw [List.length_map] at h
  rw [h]
  split <;> simp
theorem grOf_add : ∀ (L : List Ed) (k : Key) (u : Int), grOf (addL L k u) = match grOf L k with | some v => if v < u then setG (grOf L) k u else grOf L | none => setG (grOf L) k u
  | [], k, u => by
    funext x
    simp only [addL, grOf_nil, grOf_cons, setG]
    by_cases h : x = k
    · subst h; simp
    · rw [if_neg (fun e => h e.symm), if_neg h]
  | e :: L, k, u => by
    have ih := grOf_add L k u
    funext x
    rw [addL]
    by_cases he : e.1 = k
    · rw [if_pos he, grOf_cons, grOf_cons (k := k), if_pos he]
      simp only
      by_cases hx : e.1 = x
      · rw [if_pos hx]
        split
        · rw [← hx, he, setG_same]
        · rw [grOf_cons, if_pos hx]
      · rw [if_neg hx]
        have hxk : x ≠ k := fun c => hx (by rw [he, c])
        split
        · rw [setG_other hxk, grOf_cons, if_neg hx]
        · rw [grOf_cons, if_neg hx]
    · rw [if_neg he, grOf_cons, grOf_cons (k := k), if_neg he, ih]
      by_cases hx : e.1 = x
      · have hxk : x ≠ k := fun c => he (by rw [hx, c])
        rw [if_pos hx]
        cases grOf L k with
        | none => simp only; rw [setG_other hxk, grOf_cons, if_pos hx]
        | some v =>
          simp only
          split
          · rw [setG_other hxk, grOf_cons, if_pos hx]
          · rw [grOf_cons, if_pos hx]
      · rw [if_neg hx]
        cases grOf L k with
        | none =>
          simp only [setG]
          split
          · rfl
          · rw [grOf_cons, if_neg hx]
        | some v =>
          simp only
          split
          · simp only [setG]
            split
            · rfl
            · rw [grOf_cons, if_neg hx]
          · rw [grOf_cons, if_neg hx]
/-- where an edge may be, and room is, the program's Add is the document's -/
theorem add_same {L : List Ed} {k : Key} {u h room : Int} {N : Nat} (hr : rightB k u = true) (hroom : (N : Int) < room) (hh : h ≤ u) : addG (grOf L) h room N k u = grOf (addL L k u) ∧ addC (grOf L) room N k u = 0 := by
  rw [grOf_add]
  cases hk : grOf L k with
  | none =>
    obtain ⟨h1, h2⟩ := add_put (E := grOf L) (h := h) (room := room) (N := N) hr (by rintro ⟨_, h5⟩; omega) (by rintro (h5 | ⟨h5, _⟩); omega; rw [hk] at h5; cases h5)
    exact ⟨h2, h1⟩
  | some v =>
    simp only
    by_cases hv : v < u
    · rw [if_pos hv]
      obtain ⟨h1, h2⟩ := add_put (E := grOf L) (h := h) (room := room) (N := N) hr (by rintro ⟨_, h5⟩; omega) (by
        rintro (h5 | ⟨_, h5⟩)
        · omega
        · rw [hk] at h5; simp only [Option.getD_some] at h5; omega)
      exact ⟨h2, h1⟩
    · rw [if_neg hv]
      obtain ⟨h1, h2⟩ := add_old (E := grOf L) (h := h) (room := room) (N := N) hr (by rintro ⟨_, h5⟩; omega) (.inr ⟨by rw [hk]; rfl, by rw [hk]; simp only [Option.getD_some]; omega⟩)
      exact ⟨h2, h1⟩
end Go.Proofs.Ytiabmdboacpmcaa
/- The document's Add. -/
namespace Go.Proofs.Ytiabmdboacpmcaa
open Go Go.RowKit Go.Sort Go.WideMaps Go.Maps
set_option maxHeartbeats 4000000

theorem flatE_set {α : Type} (E : El α) : ∀ {L : List α} {i j : Nat} {x x' : α} {u : Value}, L[i]? = some x → j < E.size → E.enc x' = (E.enc x).set j u → flatE E (L.set i x') = (flatE E L).set (i * E.size + j) u
  | [], _, _, _, _, _, h, _, _ => by simp at h
  | y :: L, 0, j, x, x', u, h, hj, he => by
    simp at h
    subst h
    rw [List.set_cons_zero, flatE_cons, flatE_cons, he, Nat.zero_mul, Nat.zero_add, List.set_append_left _ _ (by rw [E.hl]; exact hj)]
  | y :: L, i + 1, j, x, x', u, h, hj, he => by
    rw [List.set_cons_succ, flatE_cons, flatE_cons, flatE_set E (by simpa using h) hj he, List.set_append_right _ _ (by rw [E.hl, Nat.add_mul]; omega), E.hl]
    congr 2
    rw [Nat.add_mul]
    omega
theorem rowE_set {α : Type} {E : El α} {w : World} {g n c : Nat} {L : List α} (h : rowE E w (.slice (some ⟨g, 0, none⟩) n c) L) {i j : Nat} {x x' : α} {u : Value} (hx : L[i]? = some x) (hj : j < E.size) (he : E.enc x' = (E.enc x).set j u) : rowE E (w.setCell ⟨g, i * E.size + j, none⟩ u) (.slice (some ⟨g, 0, none⟩) n c) (L.set i x') := by
  have hi := (List.getElem?_eq_some_iff.1 hx).1
  rcases h with ⟨h0, h1 | ⟨g', cap, cur, h1, h2, h3, h4, h5, h6, h7⟩⟩
  · cases h1.1
  · simp only [Value.slice.injEq, Option.some.injEq, Addr.mk.injEq, and_true] at h1
    obtain ⟨rfl, rfl, rfl⟩ := h1
    refine ⟨by rw [flatE_length], .inr ⟨g, c, cur.setIfInBounds (i * E.size + j) u, by simp, h2, heap_setCell_at h3, by simpa using h4, h5, by simpa using h6, ?_⟩⟩
    rw [flatE_set E hx hj he, ← h7, List.length_set, Array.toList_setIfInBounds, List.take_set]
theorem partA0 (a b c : Value) (w : World) : (part 3 #[a, b, c] 0).run Try.prog w = .ok a w := by kernel_rfl
theorem partA1 (a b c : Value) (w : World) : (part 3 #[a, b, c] 1).run Try.prog w = .ok b w := by kernel_rfl
theorem partA2 (a b c : Value) (w : World) : (part 3 #[a, b, c] 2).run Try.prog w = .ok c w := by kernel_rfl
theorem eqIt3 (d : Nat) (x y : Key) (w : World) : (Op.eqItems (d + 1) 3 1 #[.int .i64 x.a, .int .i64 x.b, .int .i64 x.c] #[.int .i64 y.a, .int .i64 y.b, .int .i64 y.c] [0, 1, 2]).run Try.prog w = .ok (decide (x = y)) w := by
  have hu : Try.prog.underlying 3 = some (.int .i64) := by kernel_rfl
  have he : ∀ (a b : Int) (w : World), (Op.equalIn (d + 1) 3 (.int .i64 a) (.int .i64 b)).run Try.prog w = .ok (a == b) w := fun a b w => run_equalIn_int (P := Try.prog) w d 3 .i64 .i64 a b hu
  obtain ⟨a, b, c⟩ := x
  obtain ⟨a', b', c'⟩ := y
  simp only [Op.eqItems, Sem.run_bind, Nat.mul_one, partA0, he, Result.andThen_ok]
  by_cases h1 : a = a'
  · by_cases h2 : b = b'
    · by_cases h3 : c = c' <;> simp [h1, h2, h3, partA1, partA2, he]
    · simp [h1, h2, partA1, he]
  · simp [h1]
theorem eqA3 (x y : Key) (w : World) : (Op.equalIn 10000 73 (.agg #[.int .i64 x.a, .int .i64 x.b, .int .i64 x.c]) (.agg #[.int .i64 y.a, .int .i64 y.b, .int .i64 y.c])).run Try.prog w = .ok (decide (x = y)) w := by
  obtain ⟨i, hi⟩ := Option.isSome_iff_exists.1 (show (Try.prog.info? 3).isSome = true by kernel_rfl)
  rw [show (10000 : Nat) = 9999 + 1 from rfl, run_equalIn_array w 9999 _ _ (show Try.prog.underlying 73 = some (.array 3 3) by kernel_rfl) hi, show Try.prog.cellsOf 3 = 1 by kernel_rfl]
  exact eqIt3 9998 x y w
def RowTo (L : List Ed) (w : World) (e : Ending) (w' : World) : Prop := ∃ v', e = .returned v' ∧ rowF elDr w.heap.size L v' w' ∧ Ext w w'
set_option maxRecDepth 100000 in
theorem refadd_any (v : Value) (L : List Ed) (k : Key) (u : Int) (w : World) (h : rowE elDr w v L) (hl : L.length ≤ 100000) : Calls Try.prog 49 #[v, k3 k, .int .i64 u] w (RowTo (addL L k u) w) := by
  obtain ⟨W, hW⟩ : ∃ W, W = w.alloc (.cells #[.int .i64 k.a, .int .i64 k.b, .int .i64 k.c] 73) := ⟨_, rfl⟩
  have hE0 : Ext w W := by rw [hW]; exact ext_alloc (ext_refl _) _
  obtain ⟨bk, hbk⟩ : ∃ b, b = w.heap.size := ⟨_, rfl⟩
  have hK : W.heap[bk]? = some (.cells #[.int .i64 k.a, .int .i64 k.b, .int .i64 k.c] 73 (0, 0)) := by rw [hW, hbk]; exact heap_alloc_new _ _
  have HK := Lib.hid hK
  have HE0 := Lib.hid hE0
  have HW := Lib.hid (And.intro hW hbk)
  have HR := Lib.hid (rowE_ext h hE0)
  have HRW := Lib.hid h
  obtain ⟨n, hn⟩ : ∃ n, n = L.length := ⟨_, rfl⟩
  have HN := Lib.hid hn
  obtain ⟨A0, c0, hv⟩ := rowE_form h
  rw [← hn] at hv hl
  subst hv
  clear hW hbk hK hE0 h hn
  simp only [k3]
  go_enter Try.func49, Try.ntmps49
  go_wp2_with (at_builtin; refine halt_here ?_)
  refine go_on ?_
  obtain ⟨W1, hW1⟩ : ∃ W1, W1 = (w.alloc (.cells #[.int .i64 k.a, .int .i64 k.b, .int .i64 k.c] 73)).alloc (.cells #[] 75) := ⟨_, rfl⟩
  have hE1 : Ext W W1 := by rw [hW1, HW.out.1]; exact ext_alloc (ext_refl _) _
  have hnone : rowF elDr w.heap.size [] (.slice (some ⟨w.heap.size + 1, 0, none⟩) 0 0) W1 := noneF_row ⟨w.heap.size + 1, rfl, by omega, by rw [hW1]; exact (heap_2r w _ _).2⟩
  rw [← hW1]
  refine wpList_append rfl (.tmp 9) (.tmp 10) rfl (.slice (some ⟨w.heap.size + 1, 0, none⟩) 0 0) (.slice A0 n c0) rfl rfl (fun v' w' => rowF elDr w.heap.size ([] ++ L) v' w' ∧ W1.grownBy w' (Value.slice (some ⟨w.heap.size + 1, 0, none⟩) 0 0).ownBlock) (append_onto tpDr _ w.heap.size _ _ [] L W1 hnone (srcOf_row (rowE_ext HR.out hE1)) (by rw [List.length_nil, ← HN.out]; omega) (by have := ext_size (ext_trans HE0.out hE1); omega)) ?_
  rintro v2 w2 ⟨hr2, hg2⟩
  rw [List.nil_append] at hr2
  have hU2 : Upd (fun b => b = w.heap.size + 1) W1 w2 := upd_mono (upd_grown hg2) (fun i _ e => (Option.some.inj e).symm)
  have hk2 := (hU2.block bk (ext_lt hE1 (block_lt HK.out)) (fun e => by have e' : bk = w.heap.size + 1 := e; have := HW.out.2; omega)).trans ((ext_block hE1 (block_lt HK.out)).trans HK.out)
  have HK2 := Lib.hid hk2
  have HR2 := Lib.hid hr2
  have HE2 := Lib.hid (show Ext w w2 from ext_of_upd (upd_trans (upd_of_ext (ext_trans HE0.out hE1)) hU2 (fun i hi e => absurd hi (by have e' : i = w.heap.size + 1 := e; omega))))
  obtain ⟨A2, c2, hv2⟩ := rowE_form hr2.1
  rw [← HN.out] at hv2
  subst hv2
  clear hW1 hE1 hnone hr2 hg2 hU2 hk2
  rw [← HW.out.2]
  go_simp
  go_wp2
  go_loopw [14] (fun y wr => ∃ j : Nat, j ≤ n ∧ y = .int .i64 (j : Int) ∧ Ext w2 wr ∧ ∀ (i : Nat) (x : Ed), i < j → L[i]? = some x → x.1 ≠ k) (fun y _ => n - (intOf y).toNat)
  case atStart => exact ⟨0, by omega, rfl, ext_refl _, fun i x hi => by omega⟩
  case round =>
    rename World => wi
    obtain ⟨j, hj, rfl, hE, hno⟩ := hrel
    have HE := Lib.hid hE
    have HNO := Lib.hid hno
    have hki := (ext_block hE (block_lt HK2.out)).trans HK2.out
    have HRI := Lib.hid (rowF_ext _ _ _ hE HR2.out)
    have HKI := Lib.hid hki
    clear hE hno
    by_cases hlt : j < n
    · have hji : (j : Int) < (n : Int) := by omega
      have hj0 : (0 : Int) ≤ (j : Int) := by omega
      obtain ⟨x, hx⟩ : ∃ x, L[j]? = some x := ⟨_, List.getElem?_eq_getElem (by rw [← HN.out]; exact hlt)⟩
      obtain ⟨g, hg, lg⟩ := rowE_some HRI.out.1 (fun e => by rw [e] at hx; simp at hx)
      subst hg
      have e0 : wi.cell? ⟨g, j * 4, none⟩ = some (.int .i64 x.1.a) := rowE_cell HRI.out.1 hx (j := 0) (u := .int .i64 x.1.a) rfl
      have e1 : wi.cell? ⟨g, j * 4 + 1, none⟩ = some (.int .i64 x.1.b) := rowE_cell HRI.out.1 hx (j := 1) (u := .int .i64 x.1.b) rfl
      have e2 : wi.cell? ⟨g, j * 4 + 2, none⟩ = some (.int .i64 x.1.c) := rowE_cell HRI.out.1 hx (j := 2) (u := .int .i64 x.1.c) rfl
      have k0 := block_cell hki 0
      have k1 := block_cell hki 1
      have k2 := block_cell hki 2
      have lk := block_lt hki
      have heq : ∀ w : World, (Op.equalIn 10000 73 (.agg #[.int .i64 x.1.a, .int .i64 x.1.b, .int .i64 x.1.c]) (.agg #[.int .i64 k.a, .int .i64 k.b, .int .i64 k.c])).run Try.prog w = .ok (decide (x.1 = k)) w := fun w => eqA3 x.1 k w
      have HX := Lib.hid hx
      have hgc := cell_grown
      clear hx hki
      obtain ⟨eqb, heqb⟩ : ∃ b, b = decide (x.1 = k) := ⟨_, rfl⟩
      rw [← heqb] at heq
      have HEQ := Lib.hid heqb
      clear heqb
      go_wp2
      refine wp_region_free 7 [0, 1, 2, 3, 4, 5, 6] [] (by kernel_rfl) (by kernel_rfl) ?_
      repeat (refine wpLoose_step rfl (fun K hK => ?_); (try simp only [Oper.quietAt, Oper.quietUpon]); go_simp; (refine hK _ ?_; clear hK K))
      refine wpLoose_nil (wpFresh_nil (fun w3 hE3 _ => ?_))
      simp only [List.drop_succ_cons, List.drop_zero]
      have HE3 := Lib.hid hE3
      have HR3 := Lib.hid (rowF_ext _ _ _ hE3 HRI.out)
      clear hE3 e0 e1 e2 k0 k1 k2 lk heq hgc
      cases eqb with
      | false =>
        have HREL := Lib.hid (show Ext w2 w3 ∧ ∀ (i : Nat) (y : Ed), i < j + 1 → L[i]? = some y → y.1 ≠ k from ⟨ext_trans HE.out HE3.out, fun i y hi hy => by
          rcases Nat.lt_or_eq_of_le (Nat.le_of_lt_succ hi) with h5 | h5
          · exact HNO.out i y h5 hy
          · subst h5
            rw [HX.out] at hy
            cases hy
            have := HEQ.out
            simpa using this.symm⟩)
        go_wp2
        go_roundw
        case rel => exact ⟨j + 1, by omega, by go_num, HREL.out.1, HREL.out.2⟩
        case measure => simp [intOf]; omega
      | true =>
        have hxk : x.1 = k := by have := HEQ.out; simpa using this.symm
        have HAT := Lib.hid (addL_at (u := u) HX.out hxk HNO.out)
        have e3 : w3.cell? ⟨g, j * 4 + 1 + 1 + 1, none⟩ = some (.int .i64 x.2) := rowE_cell HR3.out.1 HX.out (j := 3) (u := .int .i64 x.2) rfl
        have e3' : w3.cell? ⟨g, j * 4 + 3, none⟩ = some (.int .i64 x.2) := e3
        obtain ⟨_, cur3, hc3⟩ := rowE_block HR3.out.1 (g := g) rfl
        have lg3 := block_lt hc3
        have f3 := block_frozen hc3 (j * 4 + 3)
        clear hc3 hxk
        by_cases hup : x.2 < u
        · have HF := Lib.hid (show RowTo (addL L k u) w (.returned (.slice (some ⟨g, 0, none⟩) n c2)) (w3.setCell ⟨g, j * 4 + 3, none⟩ (.int .i64 u)) from by
            refine ⟨_, rfl, ⟨?_, HR3.out.2⟩, ext_of_upd (upd_trans (upd_of_ext (ext_trans HE2.out (ext_trans HE.out HE3.out))) (upd_setCell (a := ⟨g, j * 4 + 3, none⟩) _) (fun i hi e => absurd hi (by
              have e' : i = g := e
              have := HR3.out.2 g rfl
              omega)))⟩
            rw [HAT.out, if_pos hup]
            exact rowE_set HR3.out.1 HX.out (j := 3) (by decide) rfl)
          go_wp2
          refine bodyPost_ret (results_tmp rfl _ _ _) rfl ?_
          exact HF.out
        · have HF := Lib.hid (show RowTo (addL L k u) w (.returned (.slice (some ⟨g, 0, none⟩) n c2)) w3 from by
            refine ⟨_, rfl, ⟨?_, HR3.out.2⟩, ext_trans HE2.out (ext_trans HE.out HE3.out)⟩
            rw [HAT.out, if_neg hup]
            have : L.set j (x.1, x.2) = L := by
              obtain ⟨x1, x2⟩ := x
              have h5 := List.getElem?_eq_some_iff.1 HX.out
              rw [← h5.2]
              exact List.set_getElem_self _
            rw [this]
            exact HR3.out.1)
          go_wp2
          refine bodyPost_ret (results_tmp rfl _ _ _) rfl ?_
          exact HF.out
    · have h5 : j = n := by omega
      subst h5
      have HADD := Lib.hid (show addL L k u = L ++ [(k, u)] from addL_none (fun e he => by
        obtain ⟨i, hi⟩ := List.getElem?_of_mem he
        exact HNO.out i e (by rw [HN.out]; exact (List.getElem?_eq_some_iff.1 hi).1) hi))
      have k0 := block_cell hki 0
      have k1 := block_cell hki 1
      have k2 := block_cell hki 2
      have lk := block_lt hki
      clear hki
      go_wp2_with (at_builtin; refine halt_here ?_)
      refine go_on ?_
      obtain ⟨w4, hw4⟩ : ∃ w4, w4 = wi.alloc (.cells #[.int .i64 k.a, .int .i64 k.b, .int .i64 k.c, .int .i64 u] 75) := ⟨_, rfl⟩
      have hE4 : Ext wi w4 := by rw [hw4]; exact ext_alloc (ext_refl _) _
      have hone : oneF elDr wi.heap.size (k, u) (.slice (some ⟨wi.heap.size, 0, none⟩) 1 1) w4 := ⟨wi.heap.size, rfl, Nat.le_refl _, by rw [hw4]; exact heap_alloc_new wi (.cells #[.int .i64 k.a, .int .i64 k.b, .int .i64 k.c, .int .i64 u] 75)⟩
      rw [← hw4]
      refine wpList_append rfl (.tmp 38) (.tmp 42) rfl (.slice A2 j c2) (.slice (some ⟨wi.heap.size, 0, none⟩) 1 1) rfl rfl (fun v' w' => rowF elDr w.heap.size (L ++ [(k, u)]) v' w' ∧ w4.grownBy w' (Value.slice A2 j c2).ownBlock) (append_onto tpDr _ w.heap.size _ _ L [(k, u)] w4 (rowF_ext _ _ _ hE4 HRI.out) (srcOf_one hone) (by rw [← HN.out, List.length_singleton]; omega) (by have := ext_size (ext_trans HE2.out (ext_trans HE.out hE4)); omega)) ?_
      rintro v5 w5 ⟨hr5, hg5⟩
      have HF := Lib.hid (show RowTo (addL L k u) w (.returned v5) w5 from ⟨v5, rfl, by rw [HADD.out]; exact hr5, ext_of_upd (upd_trans (upd_of_ext (ext_trans HE2.out (ext_trans HE.out hE4))) (upd_grown hg5) (fun i hi e => absurd hi (by have := HRI.out.2 i e; omega)))⟩)
      clear hw4 hE4 hone hr5 hg5 k0 k1 k2 lk
      go_simp
      go_wp2
      refine bodyPost_ret (results_tmp rfl _ _ _) rfl ?_
      exact HF.out
end Go.Proofs.Ytiabmdboacpmcaa
/- forest: a forest of acts, and the document's edges. -/
namespace Go.Proofs.Ytiabmdboacpmcaa
open Go Go.RowKit Go.Sort Go.WideMaps Go.Maps
set_option maxHeartbeats 4000000

def absZ (n : Int) : Int := (IntKind.u64.wrap n).tmod 5
theorem absZ_le (n : Int) : 0 ≤ absZ n ∧ absZ n < 5 := by
  have h : 0 ≤ IntKind.u64.wrap n := by
    simp [IntKind.wrap, IntKind.signed, IntKind.bits]
    omega
  unfold absZ
  rw [Int.tmod_eq_emod_of_nonneg h]
  omega
theorem abs_any (n : Int) (w : World) : Calls Try.prog 43 #[.int .i64 n] w fun e w' => e = .returned (.int .i64 (absZ n)) ∧ w' = w := by
  have h := absZ_le n
  have hw : wrap64 ((IntKind.u64.wrap n).tmod 5) = absZ n := IntWalk.wrap64_in _ (by unfold absZ at h; omega)
  have H := Lib.hid hw
  clear h hw
  go_enter Try.func43, Try.ntmps43
  go_wp2
  refine bodyPost_ret (results_tmp rfl _ _ _) rfl ?_
  exact ⟨by rw [← H.out]; rfl, rfl⟩
end Go.Proofs.Ytiabmdboacpmcaa
