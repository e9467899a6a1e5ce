/- Texts joined: Ht Hu. -/
import Derived.Test.YtiabmdboacpmcaaX30
import Derived.Test.YtiabmdboacpmcaaX20
/- forest, walked. -/
namespace Go.Proofs.Ytiabmdboacpmcaa
open Go Go.RowKit Go.Sort Go.WideMaps Go.Maps
set_option maxHeartbeats 4000000

structure AR where
  kind : Int
  key : Key
  till : Int
def RdAR (w : World) (v : Value) (L : List AR) : Prop := ∃ A c, v = .slice A L.length c ∧ (∀ x ∈ L, ok3 x.key ∧ okI x.till) ∧ (L ≠ [] → ∃ b off, A = some ⟨b, off, none⟩ ∧ b < w.heap.size ∧ ∀ (i : Nat) (x : AR), L[i]? = some x →
  w.cell? ⟨b, off + i * 5, none⟩ = some (.int .u8 x.kind) ∧ w.cell? ⟨b, off + i * 5 + 1, none⟩ = some (.int .i64 x.key.a) ∧ w.cell? ⟨b, off + i * 5 + 2, none⟩ = some (.int .i64 x.key.b) ∧ w.cell? ⟨b, off + i * 5 + 3, none⟩ = some (.int .i64 x.key.c) ∧ w.cell? ⟨b, off + i * 5 + 4, none⟩ = some (.int .i64 x.till))
theorem rdAR_ext {w w' : World} {v : Value} {L : List AR} (h : RdAR w v L) (hE : Ext w w') : RdAR w' v L := by
  obtain ⟨A, c, h1, h2, h3⟩ := h
  refine ⟨A, c, h1, h2, fun hne => ?_⟩
  obtain ⟨b, off, h4, h5, h6⟩ := h3 hne
  refine ⟨b, off, h4, ext_lt hE h5, fun i x hx => ?_⟩
  obtain ⟨c0, c1, c2, c3, c4⟩ := h6 i x hx
  exact ⟨(ext_cell hE _ _ h5).trans c0, (ext_cell hE _ _ h5).trans c1, (ext_cell hE _ _ h5).trans c2, (ext_cell hE _ _ h5).trans c3, (ext_cell hE _ _ h5).trans c4⟩
def absK (k : Key) : Key := ⟨absZ k.a, absZ k.b, absZ k.c⟩
def untZ (u : Int) : Int := u.tmod 1000
theorem untZ_le (u : Int) : -1000 < untZ u ∧ untZ u < 1000 := by
  unfold untZ
  have h1 := Int.tmod_lt_of_pos u (b := 1000) (by omega)
  have h2 := Int.lt_tmod_of_pos u (b := 1000) (by omega)
  omega
theorem absK_ok (k : Key) : ok3 (absK k) ∧ 0 ≤ (absK k).a ∧ 0 ≤ (absK k).b ∧ 0 ≤ (absK k).c := by
  have h1 := absZ_le k.a
  have h2 := absZ_le k.b
  have h3 := absZ_le k.c
  unfold absK
  exact ⟨⟨(show okI (absZ k.a) from okI_iff.2 (by omega)), (show okI (absZ k.b) from okI_iff.2 (by omega)), (show okI (absZ k.c) from okI_iff.2 (by omega))⟩, h1.1, h2.1, h3.1⟩
theorem untZ_ok (u : Int) : okI (untZ u) := okI_iff.2 (by have := untZ_le u; omega)
theorem absK_right (k : Key) (u : Int) : rightB (absK k) (untZ u) = true := by
  rw [rightB_iff]
  obtain ⟨_, h1, h2, h3⟩ := absK_ok k
  have := untZ_le u
  unfold forever
  exact ⟨h1, h2, h3, by omega, by omega⟩
def edsL (L : List AR) : List Ed := L.foldl (fun E x => addL E (absK x.key) (untZ x.till)) []
theorem edsL_take {L : List AR} {j : Nat} {x : AR} (h : L[j]? = some x) : edsL (L.take (j + 1)) = addL (edsL (L.take j)) (absK x.key) (untZ x.till) := by
  unfold edsL
  rw [List.take_add_one, h, Option.toList_some, List.foldl_append]
  rfl
theorem foldl_addL : ∀ (L : List AR) (E : List Ed), KeysNd E → KeysNd (L.foldl (fun E x => addL E (absK x.key) (untZ x.till)) E) ∧ (L.foldl (fun E x => addL E (absK x.key) (untZ x.till)) E).length ≤ E.length + L.length
  | [], E, h => ⟨h, by simp⟩
  | x :: L, E, h => by
    obtain ⟨h1, h2⟩ := foldl_addL L (addL E (absK x.key) (untZ x.till)) (addL_nd h)
    refine ⟨h1, ?_⟩
    have h3 := addL_len E (absK x.key) (untZ x.till)
    rw [List.foldl_cons, List.length_cons]
    omega
theorem edsL_nd (L : List AR) : KeysNd (edsL L) := (foldl_addL L [] List.nodup_nil).1
theorem edsL_len (L : List AR) : (edsL L).length ≤ L.length := by have := (foldl_addL L [] List.nodup_nil).2; simpa [edsL] using this
/-- a forest, and a row that is none of its own -/
def FoR (t : Tr) (E : List Ed) (H N : Nat) (w0 : World) (L : Loc) (ve : Value) (w : World) : Prop := ∃ F, Fo t w0 L 100 minI (grOf E) F w ∧ (∀ b, F b → H ≤ b ∧ b < N) ∧ rowF elDr H E ve w ∧ ∀ g, ve.ownBlock = some g → ¬ F g
theorem foR_ext {t : Tr} {E : List Ed} {H N : Nat} {w0 : World} {L : Loc} {ve : Value} {w w' : World} (h : FoR t E H N w0 L ve w) (hE : Ext w w') : FoR t E H N w0 L ve w' := by
  obtain ⟨F, h1, h2, h3, h4⟩ := h
  exact ⟨F, fo_ext h1 hE, h2, rowF_ext _ _ _ hE h3, h4⟩
def CellK (H : Nat) (v : Value) (w : World) : Prop := ∃ g, v = .pointer (some ⟨g, 0, none⟩) ∧ H ≤ g ∧ w.heap[g]? = some (.cells #[.int .i64 0, .int .i64 0, .int .i64 0] 73 (0, 0))
theorem cellK_ext {H : Nat} (v : Value) (w w' : World) (hE : Ext w w') (h : CellK H v w) : CellK H v w' := by
  obtain ⟨g, h1, h2, h3⟩ := h
  exact ⟨g, h1, h2, (ext_block hE (block_lt h3)).trans h3⟩
theorem add_foR {t : Tr} {E : List Ed} {H N : Nat} {w0 : World} {L : Loc} {ve : Value} {k : Key} {u : Int} {w : World} (h : FoR t E H N w0 L ve w) (hN : N ≤ w.heap.size) (hnd : KeysNd E) (hl : E.length ≤ 90) (hk : ok3 k) (hu : okI u) (hr : rightB k u = true) :
    Calls Try.prog 42 #[ptr L.pf, k3 k, .int .i64 u] w fun e w' => e = .returned (.int .i64 0) ∧ (∃ F, Fo t w0 L 100 minI (grOf (addL E k u)) F w' ∧ (∀ b, F b → H ≤ b ∧ b < w'.heap.size) ∧ rowF elDr H E ve w' ∧ ∀ g, ve.ownBlock = some g → ¬ F g) ∧ Upd (fun b => H ≤ b ∧ b < N) w w' := by
  obtain ⟨F, h1, h2, h3, h4⟩ := h
  obtain ⟨W0, hM⟩ := h1.mach
  have hadd := add_any w0 W0 L 100 minI (grOf E) _ 0 (enT t) (mvT t) F (E.map (·.1)) k u w h1.form (machT_mach hM) (card_of hnd) (by rw [List.length_map]; omega) hk hu
  obtain ⟨hs1, hs2⟩ := add_same (L := E) (k := k) (u := u) (h := minI) (room := 100) (N := (E.map (·.1)).length) hr (by rw [List.length_map]; omega) (by unfold minI; have := okI_iff.1 hu; omega)
  refine hadd.mono ?_
  rintro e w' ⟨rfl, hF, hU⟩
  rw [hs1] at hF
  rw [hs2]
  have hsz := hU.size
  have hlow : ∃ c, F c ∧ H ≤ c := by
    obtain ⟨S, f, hm, _⟩ := h1.form.ex
    exact ⟨L.pf, hm.own.1, (h2 _ hm.own.1).1⟩
  refine ⟨rfl, ⟨fun b => F b ∨ (w.heap.size ≤ b ∧ b < w'.heap.size), ⟨h1.mach, forM_own hF (fun b hb hf => ?_)⟩, fun b hb => ?_, ⟨rowE_upd h3.1 hU (fun b hb hf => h4 b hb hf), h3.2⟩, fun g hg hf => ?_⟩, upd_mono hU (fun b _ hf => h2 b hf)⟩
  · rcases hf with hf | hf
    · exact .inl hf
    · exact .inr ⟨hf, hb⟩
  · rcases hb with hb | hb
    · have := h2 b hb; have := hU.size; omega
    · obtain ⟨c, hc1, hc2⟩ := hlow
      have := (h2 c hc1).2
      exact ⟨by omega, hb.2⟩
  · rcases hf with hf | hf
    · exact h4 g hg hf
    · have := (rowE_block h3.1 hg).1
      omega
def ForestTo (t : Tr) (E : List Ed) (w : World) (e : Ending) (w' : World) : Prop := ∃ w0 L ve, e = .returned (.tuple #[ptr L.pf, ve]) ∧ FoR t E w.heap.size w'.heap.size w0 L ve w' ∧ Ext w w'
set_option maxRecDepth 100000 in
theorem forest_any (t : Tr) (v va : Value) (L : List AR) (w : World) (hv : PV w t v) (hc : chk t = 0) (ha : RdAR w va L) (hl : L.length ≤ 40) : Calls Try.prog 37 #[v, va] w (ForestTo t (edsL L) w) := by
  obtain ⟨kd, nn, A0, n0, c0, rfl⟩ : ∃ k n A l c, v = .agg #[.int .i64 k, .int .i64 n, .slice A l c] := by
    obtain ⟨k, n, ps⟩ := t
    obtain ⟨s, rfl, hs⟩ := hv
    obtain ⟨A, c, rfl⟩ := PS_form hs
    exact ⟨k, n, A, _, c, rfl⟩
  have hE0 := ext_alloc (ext_refl w) (.cells #[.int .i64 kd, .int .i64 nn, .slice A0 n0 c0] 30)
  have HE0 := Lib.hid hE0
  have CN := Lib.hid (new_yes t _ 100 _ (PV_ext hv hE0) hc (by omega))
  have HA := Lib.hid ha
  obtain ⟨AA, ca, rfl, hok, -⟩ := ha
  have HOK := Lib.hid hok
  obtain ⟨n, hn⟩ : ∃ n, n = L.length := ⟨_, rfl⟩
  rw [← hn] at hl HA ⊢
  have HN := Lib.hid hn
  clear hv hc hE0 hok hn
  go_enter Try.func37, Try.ntmps37
  go_wp2_with fail
  refine CN.out.mono ?_
  rintro e w1 ⟨w0, Lc, rfl, hF, hE1, hE1'⟩
  have HE1 := Lib.hid (ext_trans HE0.out hE1')
  have HF1 := Lib.hid (show FoR t (edsL (L.take 0)) w.heap.size w1.heap.size w0 Lc (.slice none 0 0) w1 from ⟨fun b => w.heap.size ≤ b ∧ b < w1.heap.size, fo_own hF (fun b hb hf => ⟨by have := ext_size HE0.out; omega, hb⟩), fun b hb => hb, rowF_nil _ _, fun g hg => by cases hg⟩)
  clear hF hE1 hE1' CN
  go_wp2
  go_loopw [8, 19] (fun y x wr => ∃ j : Nat, j ≤ n ∧ x = .int .i64 (j : Int) ∧ ∃ ve, y = ve ∧ FoR t (edsL (L.take j)) w.heap.size wr.heap.size w0 Lc ve wr ∧ Ext w wr) (fun _ x _ => n - (intOf x).toNat)
  case atStart => exact ⟨0, by omega, rfl, _, rfl, HF1.out, HE1.out⟩
  case round =>
    rename World => wi
    obtain ⟨j, hj, rfl, ve, rfl, hF, hE⟩ := hrel
    have HF := Lib.hid hF
    have HE := Lib.hid hE
    clear hF hE
    by_cases hlt : j < n
    · have hji : (j : Int) < (n : Int) := by omega
      have hj0 : (0 : Int) ≤ (j : Int) := by omega
      obtain ⟨x, hx⟩ : ∃ x, L[j]? = some x := ⟨_, List.getElem?_eq_getElem (by rw [← HN.out]; exact hlt)⟩
      obtain ⟨A', c', hv', _, hrd⟩ := rdAR_ext HA.out HE.out
      simp only [Value.slice.injEq] at hv'
      obtain ⟨rfl, -, rfl⟩ := hv'
      obtain ⟨g, off, rfl, lg, hc⟩ := hrd (fun e => by rw [e] at hx; simp at hx)
      obtain ⟨c0', c1', c2', c3', c4'⟩ := hc j x hx
      have HX := Lib.hid hx
      obtain ⟨W4, hW4⟩ : ∃ W4, W4 = wi.alloc (.cells #[.int .u8 x.kind, .int .i64 x.key.a, .int .i64 x.key.b, .int .i64 x.key.c, .int .i64 x.till] 82) := ⟨_, rfl⟩
      have hE4 : Ext wi W4 := by rw [hW4]; exact ext_alloc (ext_refl _) _
      obtain ⟨bx, hbx⟩ : ∃ b, b = wi.heap.size := ⟨_, rfl⟩
      have hX4 : W4.heap[bx]? = some (.cells #[.int .u8 x.kind, .int .i64 x.key.a, .int .i64 x.key.b, .int .i64 x.key.c, .int .i64 x.till] 82 (0, 0)) := by rw [hW4, hbx]; exact heap_alloc_new _ _
      have HX4 := Lib.hid hX4
      have HE4 := Lib.hid hE4
      have HBX := Lib.hid hbx
      clear hc hrd hx hE4 hX4 hbx
      have ux : ∀ (o : Nat) (w' : World), Ext W4 w' → w'.cell? ⟨bx, o, none⟩ = (#[.int .u8 x.kind, .int .i64 x.key.a, .int .i64 x.key.b, .int .i64 x.key.c, .int .i64 x.till] : Array Value)[o]? := fun o w' h => block_cell ((ext_block h (block_lt HX4.out)).trans HX4.out) o
      have uxl : ∀ w', Ext W4 w' → bx < w'.heap.size := fun w' h => ext_lt h (block_lt HX4.out)
      go_wp2
      rw [← hW4]
      clear hW4 c0' c1' c2' c3' c4' lg
      rw [← HBX.out]
      refine wp_region_line ext_wR [] [(0, false, (fun v => v = (.pointer (some ⟨bx, 1, none⟩))), fun _ _ => True), (1, false, (fun v => v = (.pointer (some ⟨bx, 1, none⟩))), fun _ _ => True), (2, false, (fun v => v = (.int .i64 x.key.a)), fun _ _ => True), (3, false, (fun v => v = (.int .i64 (absZ x.key.a))), fun _ _ => True), (4, false, (fun v => v = (.pointer (some ⟨bx, 1, none⟩))), fun _ _ => True), (5, false, (fun v => v = (.pointer (some ⟨bx, 2, none⟩))), fun _ _ => True), (6, false, (fun v => v = (.int .i64 x.key.b)), fun _ _ => True), (7, false, (fun v => v = (.int .i64 (absZ x.key.b))), fun _ _ => True), (8, false, (fun v => v = (.pointer (some ⟨bx, 1, none⟩))), fun _ _ => True), (9, false, (fun v => v = (.pointer (some ⟨bx, 3, none⟩))), fun _ _ => True), (10, false, (fun v => v = (.int .i64 x.key.c)), fun _ _ => True), (11, false, (fun v => v = (.int .i64 (absZ x.key.c))), fun _ _ => True), (12, false, (fun v => v = (.agg #[.int .i64 (absZ x.key.a), .int .i64 (absZ x.key.b), .int .i64 (absZ x.key.c)])), fun _ _ => True), (13, true, (fun v => ∃ g, v = .pointer (some ⟨g, 0, none⟩)), CellK W4.heap.size)] [14] [0, 1, 2, 3, 4, 5, 6, 7, 8, 9, 10, 11, 12, 13] rfl (by kernel_rfl) (by kernel_rfl) (fun _ _ d _ _ h => by cases d <;> exact h) ?_
      refine wpPre_nil ?_
      refine wpGl_pure1 (fun _ _ _ h h1 w' hw hs => h1 w' hw (h _ hs)) rfl (fun w6 hE6 hS6 => ?_) (fun K hK => ?_)
      · simp only [opAtL, runsAt]
        go_simp
        all_goals (first | exact ⟨ext_refl _, rfl⟩ | exact ext_refl _ | rfl | trivial)
      go_simp
      refine hK _ ?_
      clear hK K
      refine wpGl_pure1 (fun _ _ _ h h1 w' hw hs => h1 w' hw (h _ hs)) rfl (fun w6 hE6 hS6 => ?_) (fun K hK => ?_)
      · simp only [opAtL, runsAt]
        go_simp
        all_goals (first | exact ⟨ext_refl _, rfl⟩ | exact ext_refl _ | rfl | trivial)
      go_simp
      refine hK _ ?_
      clear hK K
      refine wpGl_pure1 (fun _ _ _ h h1 w' hw hs => h1 w' hw (h _ hs)) rfl (fun w6 hE6 hS6 => ?_) (fun K hK => ?_)
      · have q0 := ux 1 w6 hE6
        have q1 := uxl w6 hE6
        simp only [opAtL, runsAt]
        go_simp
        all_goals (first | exact ⟨ext_refl _, rfl⟩ | exact ext_refl _ | rfl | trivial)
      go_simp
      refine hK _ ?_
      clear hK K
      refine wpGl_pure1 (fun _ _ _ h h1 w' hw hs => h1 w' hw (h _ hs)) rfl (fun w6 hE6 hS6 => ?_) (fun K hK => ?_)
      · simp only [opAtL, runsAt]
        go_simp
        refine (abs_any x.key.a w6).mono ?_
        rintro e w7 ⟨rfl, rfl⟩
        first | exact ⟨rfl, ext_refl _⟩ | exact ⟨_, rfl, ext_refl _, rfl⟩
      go_simp
      refine hK _ ?_
      clear hK K
      refine wpGl_pure1 (fun _ _ _ h h1 w' hw hs => h1 w' hw (h _ hs)) rfl (fun w6 hE6 hS6 => ?_) (fun K hK => ?_)
      · simp only [opAtL, runsAt]
        go_simp
        all_goals (first | exact ⟨ext_refl _, rfl⟩ | exact ext_refl _ | rfl | trivial)
      go_simp
      refine hK _ ?_
      clear hK K
      refine wpGl_pure1 (fun _ _ _ h h1 w' hw hs => h1 w' hw (h _ hs)) rfl (fun w6 hE6 hS6 => ?_) (fun K hK => ?_)
      · simp only [opAtL, runsAt]
        go_simp
        all_goals (first | exact ⟨ext_refl _, rfl⟩ | exact ext_refl _ | rfl | trivial)
      go_simp
      refine hK _ ?_
      clear hK K
      refine wpGl_pure1 (fun _ _ _ h h1 w' hw hs => h1 w' hw (h _ hs)) rfl (fun w6 hE6 hS6 => ?_) (fun K hK => ?_)
      · have q0 := ux 2 w6 hE6
        have q1 := uxl w6 hE6
        simp only [opAtL, runsAt]
        go_simp
        all_goals (first | exact ⟨ext_refl _, rfl⟩ | exact ext_refl _ | rfl | trivial)
      go_simp
      refine hK _ ?_
      clear hK K
      refine wpGl_pure1 (fun _ _ _ h h1 w' hw hs => h1 w' hw (h _ hs)) rfl (fun w6 hE6 hS6 => ?_) (fun K hK => ?_)
      · simp only [opAtL, runsAt]
        go_simp
        refine (abs_any x.key.b w6).mono ?_
        rintro e w7 ⟨rfl, rfl⟩
        first | exact ⟨rfl, ext_refl _⟩ | exact ⟨_, rfl, ext_refl _, rfl⟩
      go_simp
      refine hK _ ?_
      clear hK K
      refine wpGl_pure1 (fun _ _ _ h h1 w' hw hs => h1 w' hw (h _ hs)) rfl (fun w6 hE6 hS6 => ?_) (fun K hK => ?_)
      · simp only [opAtL, runsAt]
        go_simp
        all_goals (first | exact ⟨ext_refl _, rfl⟩ | exact ext_refl _ | rfl | trivial)
      go_simp
      refine hK _ ?_
      clear hK K
      refine wpGl_pure1 (fun _ _ _ h h1 w' hw hs => h1 w' hw (h _ hs)) rfl (fun w6 hE6 hS6 => ?_) (fun K hK => ?_)
      · simp only [opAtL, runsAt]
        go_simp
        all_goals (first | exact ⟨ext_refl _, rfl⟩ | exact ext_refl _ | rfl | trivial)
      go_simp
      refine hK _ ?_
      clear hK K
      refine wpGl_pure1 (fun _ _ _ h h1 w' hw hs => h1 w' hw (h _ hs)) rfl (fun w6 hE6 hS6 => ?_) (fun K hK => ?_)
      · have q0 := ux 3 w6 hE6
        have q1 := uxl w6 hE6
        simp only [opAtL, runsAt]
        go_simp
        all_goals (first | exact ⟨ext_refl _, rfl⟩ | exact ext_refl _ | rfl | trivial)
      go_simp
      refine hK _ ?_
      clear hK K
      refine wpGl_pure1 (fun _ _ _ h h1 w' hw hs => h1 w' hw (h _ hs)) rfl (fun w6 hE6 hS6 => ?_) (fun K hK => ?_)
      · simp only [opAtL, runsAt]
        go_simp
        refine (abs_any x.key.c w6).mono ?_
        rintro e w7 ⟨rfl, rfl⟩
        first | exact ⟨rfl, ext_refl _⟩ | exact ⟨_, rfl, ext_refl _, rfl⟩
      go_simp
      refine hK _ ?_
      clear hK K
      refine wpGl_pure1 (fun _ _ _ h h1 w' hw hs => h1 w' hw (h _ hs)) rfl (fun w6 hE6 hS6 => ?_) (fun K hK => ?_)
      · simp only [opAtL, runsAt]
        go_simp
        all_goals (first | exact ⟨ext_refl _, rfl⟩ | exact ext_refl _ | rfl | trivial)
      go_simp
      refine hK _ ?_
      clear hK K
      refine wpGl_fresh rfl cellK_ext (fun w6 hE6 hS6 => ?_) (fun gk => ?_)
      · simp only [opAtL, runsAt]
        go_simp
        exact ⟨ext_alloc (ext_refl _) _, ⟨w6.heap.size, rfl, Nat.le_refl _, by simp⟩, w6.heap.size, rfl, ext_size hE6, heap_alloc_new w6 _⟩
      refine wpGl_nil (fun w5 hE5 hS5 => ?_)
      obtain ⟨gk', hgk, hgl, hgb⟩ := hS5.1 _ (List.mem_cons_self ..)
      have hgg : gk' = gk := by
        simp only [Value.pointer.injEq, Option.some.injEq, Addr.mk.injEq, and_true] at hgk
        exact hgk.symm
      subst hgg
      clear hS5 ux uxl hgk
      have HE5 := Lib.hid hE5
      have HGB := Lib.hid hgb
      have HGL := Lib.hid hgl
      have HX5 := Lib.hid ((ext_block hE5 (block_lt HX4.out)).trans HX4.out)
      obtain ⟨w6, hw6⟩ : ∃ w6, w6 = ((w5.setCell ⟨gk', 0, none⟩ (.int .i64 (absZ x.key.a))).setCell ⟨gk', 1, none⟩ (.int .i64 (absZ x.key.b))).setCell ⟨gk', 2, none⟩ (.int .i64 (absZ x.key.c)) := ⟨_, rfl⟩
      have hg6 : w6.heap[gk']? = some (.cells #[.int .i64 (absZ x.key.a), .int .i64 (absZ x.key.b), .int .i64 (absZ x.key.c)] 73 (0, 0)) := by
        rw [hw6]
        exact heap_setCell_at (j := 2) (heap_setCell_at (j := 1) (heap_setCell_at (j := 0) hgb))
      have hU56 : Upd (fun b => b = gk') w5 w6 := by
        rw [hw6]
        exact upd_trans (upd_trans (upd_setCell (a := ⟨gk', 0, none⟩) _) (upd_setCell (a := ⟨gk', 1, none⟩) _) (fun _ _ h => h)) (upd_setCell (a := ⟨gk', 2, none⟩) _) (fun _ _ h => h)
      have hbg : bx ≠ gk' := fun e => by have h5 := block_lt HX4.out; omega
      have hx6 := (hU56.block bx (block_lt HX5.out) hbg).trans HX5.out
      have HG6 := Lib.hid hg6
      have HX6 := Lib.hid hx6
      have HE6 := Lib.hid (show Ext wi w6 from ext_of_upd (upd_trans (upd_of_ext (ext_trans HE4.out hE5)) hU56 (fun i hi e => absurd hi (by have e' : i = gk' := e; have := ext_size HE4.out; omega))))
      have y0 := block_cell hgb 0
      have y1 := block_cell hgb 1
      have y2 := block_cell hgb 2
      have yf0 := block_frozen hgb 0
      have yf1 := block_frozen hgb 1
      have yf2 := block_frozen hgb 2
      have yl := block_lt hgb
      clear hE5 hgb hgl hg6 hU56 hx6 hbg
      refine wpSeq_of_list [14] [_] _ _ rfl ?_
      have z0 : (((w5.setCell ⟨gk', 0, none⟩ (.int .i64 (absZ x.key.a))).setCell ⟨gk', 1, none⟩ (.int .i64 (absZ x.key.b))).setCell ⟨gk', 2, none⟩ (.int .i64 (absZ x.key.c))).cell? ⟨gk', 0, none⟩ = some (.int .i64 (absZ x.key.a)) := by rw [← hw6]; exact block_cell HG6.out 0
      have z1 : (((w5.setCell ⟨gk', 0, none⟩ (.int .i64 (absZ x.key.a))).setCell ⟨gk', 1, none⟩ (.int .i64 (absZ x.key.b))).setCell ⟨gk', 2, none⟩ (.int .i64 (absZ x.key.c))).cell? ⟨gk', 1, none⟩ = some (.int .i64 (absZ x.key.b)) := by rw [← hw6]; exact block_cell HG6.out 1
      have z2 : (((w5.setCell ⟨gk', 0, none⟩ (.int .i64 (absZ x.key.a))).setCell ⟨gk', 1, none⟩ (.int .i64 (absZ x.key.b))).setCell ⟨gk', 2, none⟩ (.int .i64 (absZ x.key.c))).cell? ⟨gk', 2, none⟩ = some (.int .i64 (absZ x.key.c)) := by rw [← hw6]; exact block_cell HG6.out 2
      have z3 : (((w5.setCell ⟨gk', 0, none⟩ (.int .i64 (absZ x.key.a))).setCell ⟨gk', 1, none⟩ (.int .i64 (absZ x.key.b))).setCell ⟨gk', 2, none⟩ (.int .i64 (absZ x.key.c))).cell? ⟨bx, 4, none⟩ = some (.int .i64 x.till) := by rw [← hw6]; exact block_cell HX6.out 4
      go_simp
      go_wp2_with fail
      rw [← hw6]
      clear hw6 z0 z1 z2 z3 y0 y1 y2 yf0 yf1 yf2 yl
      obtain ⟨EL, hEL⟩ : ∃ E, E = edsL (L.take j) := ⟨_, rfl⟩
      have hnd : KeysNd EL := by rw [hEL]; exact edsL_nd _
      have hll : EL.length ≤ 40 := by rw [hEL]; exact Nat.le_trans (edsL_len _) (by rw [List.length_take]; omega)
      have HEL := Lib.hid (show edsL (L.take (j + 1)) = addL EL (absK x.key) (untZ x.till) by rw [hEL]; exact edsL_take HX.out)
      rw [← hEL] at HF
      have HND := Lib.hid hnd
      clear hEL hnd
      refine (add_foR (k := absK x.key) (u := untZ x.till) (foR_ext HF.out HE6.out) (ext_size HE6.out) HND.out (by omega) (absK_ok _).1 (untZ_ok _) (absK_right _ _)).mono ?_
      rintro e w7 ⟨rfl, hF7, hU7⟩
      have hg7 := (hU7.block gk' (block_lt HG6.out) (fun e => by have h5 : w.heap.size ≤ gk' ∧ gk' < wi.heap.size := e; have h6 := ext_size HE4.out; have h7 := HGL.out; omega)).trans HG6.out
      have hx7 := (hU7.block bx (block_lt HX6.out) (fun e => by have h5 : w.heap.size ≤ bx ∧ bx < wi.heap.size := e; have h6 := HBX.out; omega)).trans HX6.out
      have HF7 := Lib.hid hF7
      have HE7 := Lib.hid (show Ext w w7 from ext_of_upd (upd_trans (upd_of_ext (ext_trans HE.out HE6.out)) hU7 (fun i hi e => by have h5 : w.heap.size ≤ i ∧ i < wi.heap.size := e; omega)))
      have z0 := block_cell hg7 0
      have z1 := block_cell hg7 1
      have z2 := block_cell hg7 2
      have zl := block_lt hg7
      have z3 := block_cell hx7 4
      have zm := block_lt hx7
      clear hF7 hU7 hg7 hx7
      go_wp2_with fail
      refine (refadd_any _ EL (absK x.key) (untZ x.till) w7 (by obtain ⟨F, h1, h2, h3, h4⟩ := HF7.out; exact h3.1) (by omega)).mono ?_
      rintro e w8 ⟨v8, rfl, hr8, hE8⟩
      have HF8 := Lib.hid (show FoR t (addL EL (absK x.key) (untZ x.till)) w.heap.size w8.heap.size w0 Lc v8 w8 from by
        obtain ⟨F, h1, h2, h3, h4⟩ := HF7.out
        refine ⟨F, fo_ext h1 hE8, fun b hb => ⟨(h2 b hb).1, Nat.lt_of_lt_of_le (h2 b hb).2 (ext_size hE8)⟩, rowF_low hr8 (ext_size HE7.out), fun g hg hf => ?_⟩
        have h5 := hr8.2 g hg
        have h6 := (h2 g hf).2
        omega)
      have HE8 := Lib.hid (ext_trans HE7.out hE8)
      clear hr8 hE8 z0 z1 z2 zl z3 zm
      go_wp2
      go_roundw
      case rel => exact ⟨j + 1, by omega, by go_num, _, rfl, by rw [HEL.out]; exact HF8.out, HE8.out⟩
      case measure => simp [intOf]; omega
    · have h5 : j = n := by omega
      subst h5
      have hall : L.take j = L := by rw [HN.out, List.take_length]
      rw [hall] at HF
      have HR := Lib.hid (fun ve (h : FoR t (edsL L) w.heap.size wi.heap.size w0 Lc ve wi) => (⟨w0, Lc, ve, rfl, h, HE.out⟩ : ForestTo t (edsL L) w (.returned (.tuple #[ptr Lc.pf, ve])) wi))
      clear hall
      go_wp2
      go_ret2
      exact HR.out _ HF.out
end Go.Proofs.Ytiabmdboacpmcaa
/- awake, of layer 11. -/
namespace Go.Proofs.Ytiabmdboacpmcaa
open Go Go.RowKit Go.Sort Go.WideMaps Go.Maps
set_option maxHeartbeats 4000000

def k102 : Key := ⟨1, 0, 2⟩
def grA : Gr3 := setG (fun _ => none) k102 7
theorem grA_some {k : Key} {u : Int} : grA k = some u ↔ k = k102 ∧ u = 7 := by
  unfold grA
  by_cases h : k = k102
  · subst h; rw [setG_same]; simp [eq_comm]
  · rw [setG_other h]; simp [h]
theorem words_trA {w : List Sy} (h : Words trA w) : ∀ s ∈ w, s = (0, false) := by
  simp only [trA, Words] at h
  have h' : StarL (WordsAlt [.node 0 0 []]) w := h
  induction h' with
  | nil => intro s hs; cases hs
  | cons h1 h2 ih =>
    intro s hs
    rcases List.mem_append.1 hs with h3 | h3
    · rcases h1 with h1 | h1
      · simp only [Words] at h1
        simp at h1
        rw [h1] at h3
        exact List.mem_singleton.1 h3
      · exact h1.elim
    · exact ih h2 s h3
theorem run_A {t x y : Int} {w : List Sy} (h : Run grA t x w y) (hw : ∀ s ∈ w, s = (0, false)) : x = y ∨ x = 1 ∧ y = 2 ∧ t ≤ 7 := by
  induction h with
  | nil => exact .inl rfl
  | fwd h1 h2 _ ih =>
    obtain ⟨rfl, rfl⟩ := grA_some.1 h1
    rcases ih (fun s hs => hw s (List.mem_cons_of_mem _ hs)) with h3 | ⟨h3, h4, _⟩
    · exact .inr ⟨rfl, h3.symm, h2⟩
    · exact .inr ⟨rfl, h4, h2⟩
  | bwd h1 h2 _ ih =>
    have := hw _ (List.mem_cons_self ..)
    simp at this
theorem node_A (x : Int) : isNode grA x ↔ x = 1 ∨ x = 2 := by
  unfold isNode
  constructor
  · rintro ⟨k, u, h, h2⟩
    obtain ⟨rfl, rfl⟩ := grA_some.1 h
    simpa [k102, eq_comm] using h2
  · rintro (rfl | rfl)
    · exact ⟨k102, 7, grA_some.2 ⟨rfl, rfl⟩, .inl rfl⟩
    · exact ⟨k102, 7, grA_some.2 ⟨rfl, rfl⟩, .inr rfl⟩
theorem lead_A (x y t : Int) : Lead (Words trA) grA x y t ↔ (x = 1 ∨ x = 2) ∧ t ≤ forever ∧ (x = y ∨ x = 1 ∧ y = 2 ∧ t ≤ 7) := by
  unfold Lead
  rw [node_A]
  constructor
  · rintro ⟨h1, h2, w, h3, h4⟩
    exact ⟨h1, h2, run_A h4 (words_trA h3)⟩
  · rintro ⟨h1, h2, h3⟩
    refine ⟨h1, h2, ?_⟩
    rcases h3 with rfl | ⟨rfl, rfl, h3⟩
    · exact ⟨[], wordsA1, .nil _⟩
    · refine ⟨[(0, false)], ?_, .fwd (k := k102) (u := 7) (grA_some.2 ⟨rfl, rfl⟩) h3 (.nil _)⟩
      simp only [trA, Words]
      exact .cons (u := [(0, false)]) (v := []) (.inl rfl) .nil
theorem prs_A {p : Prs} (h : PrsOf (Words trA) grA p) : p ⟨1, 1⟩ = some forever ∧ p ⟨1, 2⟩ = some 7 ∧ p ⟨2, 2⟩ = some forever ∧ ∀ q, (p q).isSome = true → q = ⟨1, 1⟩ ∨ q = ⟨1, 2⟩ ∨ q = ⟨2, 2⟩ := by
  refine ⟨(h.is 1 1 _).2 ⟨(lead_A ..).2 ⟨.inl rfl, Int.le_refl _, .inl rfl⟩, fun t ht => ((lead_A ..).1 ht).2.1⟩, (h.is 1 2 _).2 ⟨(lead_A ..).2 ⟨.inl rfl, by decide, .inr ⟨rfl, rfl, Int.le_refl _⟩⟩, fun t ht => ?_⟩, (h.is 2 2 _).2 ⟨(lead_A ..).2 ⟨.inr rfl, Int.le_refl _, .inl rfl⟩, fun t ht => ((lead_A ..).1 ht).2.1⟩, fun q hq => ?_⟩
  · rcases ((lead_A ..).1 ht).2.2 with h1 | ⟨_, _, h1⟩
    · omega
    · exact h1
  · obtain ⟨x, y⟩ := q
    obtain ⟨v, hv⟩ := Option.isSome_iff_exists.1 hq
    obtain ⟨h1, h2, h3⟩ := (lead_A ..).1 ((h.is x y v).1 hv).1
    rcases h3 with rfl | ⟨rfl, rfl, _⟩
    · rcases h1 with rfl | rfl
      · exact .inl rfl
      · exact .inr (.inr rfl)
    · exact .inr (.inl rfl)
set_option maxRecDepth 100000 in
theorem awake11_any (w : World) : Calls Try.prog 36 #[] w fun e w' => e = .returned (.bool true) ∧ Ext w w' := by
  go_enter Try.func36, Try.ntmps36
  have hb0 := fun w => run_build (P := Try.prog) w 30 #[] #[.int .i64 0, .int .i64 0, .slice none 0 0] (by kernel_rfl)
  have hb1 := fun (v : Value) (w : World) => run_build (P := Try.prog) w 30 #[(0, .int .i64 4), (2, .slice (some ⟨w.heap.size, 0, none⟩) 1 1)] #[.int .i64 4, .int .i64 0, .slice (some ⟨w.heap.size, 0, none⟩) 1 1] (by kernel_rfl)
  go_wp2_with fail
  have h0 := heap_alloc_new w (.cells #[.int .i64 0, .int .i64 0, .slice none 0 0] 30)
  have hE0 := ext_alloc (ext_refl w) (.cells #[.int .i64 0, .int .i64 0, .slice none 0 0] 30)
  have hv : PV (w.alloc (.cells #[.int .i64 0, .int .i64 0, .slice none 0 0] 30)) trA (.agg #[.int .i64 4, .int .i64 0, .slice (some ⟨w.heap.size, 0, none⟩) 1 1]) := by
    refine ⟨_, rfl, some ⟨w.heap.size, 0, none⟩, 1, rfl, fun _ => ⟨_, _, rfl, ?_⟩⟩
    rw [PL]
    refine ⟨?_, by rw [PL]; trivial⟩
    rw [PT]
    exact ⟨block_cell h0 0, block_cell h0 1, none, 0, block_cell h0 2, fun h => absurd rfl h⟩
  refine (new_yes trA _ 5 _ hv chkA (by omega)).mono ?_
  rintro e w1 ⟨w0, L, rfl, hF, hE1, hE1'⟩
  have HF := Lib.hid (fo_own (F' := fun b => w.heap.size ≤ b) hF (fun b _ hb => by have := ext_size hE0; omega))
  have HE1 := Lib.hid (ext_trans hE0 hE1')
  clear hb0 hb1 h0 hE0 hv hF hE1 hE1'
  have hpn : ∀ w, (binOp .eql 61 (ptr L.pf) (.pointer none)).run Try.prog w = .ok (.bool false) w := fun w => by
    simp [binOp, Op.equal, Op.maxDepth, run_equalIn_pointer_nil (P := Try.prog) w 9999 61 _ Try.underlying61]
  go_wp2_with fail
  obtain ⟨W0, hM⟩ := HF.out.mach
  refine (add_any w0 W0 L 5 minI (fun _ => none) _ 0 (enT trA) (mvT trA) _ [] k102 7 w1 HF.out.form (machT_mach hM) ⟨List.nodup_nil, fun k => by simp⟩ (by simp) ⟨okI_iff.2 (by decide), okI_iff.2 (by decide), okI_iff.2 (by decide)⟩ (okI_iff.2 (by decide))).mono ?_
  rintro e w2 ⟨rfl, hF2, hU2⟩
  obtain ⟨hp1, hp2⟩ := add_put (E := fun _ => none) (h := minI) (room := 5) (N := 0) (k := k102) (u := 7) (by decide) (by simp) (by simp [minI])
  rw [List.length_nil, hp2] at hF2
  rw [List.length_nil, hp1]
  have HF2 := Lib.hid (show Fo trA w0 L 5 minI grA _ w2 from ⟨⟨W0, hM⟩, hF2⟩)
  have HE2 := Lib.hid (show Ext w w2 from ext_of_upd (upd_trans (upd_of_ext HE1.out) hU2 (fun i hi e => absurd hi (by have h5 : w.heap.size ≤ i := e; omega))))
  clear hM hF2 hU2 hp1 hp2 hpn
  go_wp2_with fail
  refine (pairs_any trA w0 L 5 minI grA _ [k102] w2 HF2.out ⟨by simp, fun k => by
    rw [List.mem_singleton]
    constructor
    · rintro rfl; rw [grA_some.2 ⟨rfl, rfl⟩]; rfl
    · intro h
      obtain ⟨u, hu⟩ := Option.isSome_iff_exists.1 h
      exact (grA_some.1 hu).1⟩ (by simp)).mono ?_
  rintro e w3 ⟨qb, N, p, rfl, hQ, hP, hqb, hE3⟩
  obtain ⟨p11, p12, p22, pall⟩ := prs_A hP
  have hN : 3 = N := mapG_card hQ (L := [⟨1, 1⟩, ⟨1, 2⟩, ⟨2, 2⟩]) (by simp) (fun q => by
    constructor
    · intro hq
      simp only [List.mem_cons, List.not_mem_nil, or_false] at hq
      rcases hq with rfl | rfl | rfl
      · rw [p11]; rfl
      · rw [p12]; rfl
      · rw [p22]; rfl
    · intro hq
      simp only [List.mem_cons, List.not_mem_nil, or_false]
      exact pall q hq)
  subst hN
  have hlen : ∀ ty, (Builtin.len_ #[65] ty #[.map (some qb)]).run Try.prog w3 = .ok (.int .i64 3) w3 := fun ty => len_G Try.underlying65 hQ
  have hl1 : (Instr.lookup 65 (.map (some qb)) (.agg #[.int .i64 1, .int .i64 1]) false).run Try.prog w3 = .ok (.int .i64 4611686018427387904) w3 := by
    have h3 := look_G Try.underlying65 hQ (x := ⟨1, 1⟩) ⟨okI_iff.2 (by decide), okI_iff.2 (by decide)⟩
    rw [p11] at h3
    exact h3
  have hl2 : (Instr.lookup 65 (.map (some qb)) (.agg #[.int .i64 1, .int .i64 2]) false).run Try.prog w3 = .ok (.int .i64 7) w3 := by
    have h3 := look_G Try.underlying65 hQ (x := ⟨1, 2⟩) ⟨okI_iff.2 (by decide), okI_iff.2 (by decide)⟩
    rw [p12] at h3
    exact h3
  have HE3 := Lib.hid (ext_trans HE2.out hE3)
  clear hQ hP hqb hE3 p11 p12 p22 pall
  go_wp2
  refine bodyPost_ret (results_tmp rfl _ _ _) rfl ?_
  exact ⟨rfl, HE3.out⟩
end Go.Proofs.Ytiabmdboacpmcaa
