/- NfaDeep. -/
import Derived.Test.YtiabmdboacpmcaaPr
namespace Go.Proofs.Ytiabmdboacpmcaa
open Go Go.RowKit Go.Sort
set_option maxHeartbeats 1000000

/-- bytes as they lie, anywhere -/
def RdB (w : World) (v : Value) (L : List Nat) : Prop := ∃ A c, v = .slice A L.length c ∧ L.length ≤ c ∧ (∀ x ∈ L, x < 256) ∧ (L ≠ [] → ∃ b off, A = some ⟨b, off, none⟩ ∧ b < w.heap.size ∧ ∀ (i : Nat) (x : Nat), L[i]? = some x → w.cell? ⟨b, off + i, none⟩ = some (.int .u8 (x : Int)))
theorem rdB_ext {w w' : World} {v : Value} {L : List Nat} (h : RdB w v L) (hE : Ext w w') : RdB w' v L := by
  obtain ⟨A, c, h1, h2, h0, h3⟩ := h
  refine ⟨A, c, h1, h2, h0, fun hne => ?_⟩
  obtain ⟨b, off, h4, h5, h6⟩ := h3 hne
  exact ⟨b, off, h4, ext_lt hE h5, fun i x hx => (ext_cell hE _ _ h5).trans (h6 i x hx)⟩

def nest : List Int → Tr
  | [] => .node 0 2 []
  | k :: r => .node k 0 [nest r]
theorem nest_deep : ∀ (L : List Int) (l : Int), deepB (nest L) l = decide ((L.length : Int) < l)
  | [], l => by simp [nest, deepB, deepL]
  | k :: r, l => by
    rw [nest, deepB, deepL, deepL, Bool.and_true, nest_deep r]
    rw [Bool.eq_iff_iff]
    simp
    omega
theorem nest_size : ∀ (L : List Int), sizeT (nest L) = L.length + 1
  | [] => by simp [nest, sizeT, sizeL]
  | k :: r => by rw [nest, sizeT, sizeL, sizeL, nest_size r]; simp; omega
theorem nest_form : ∀ (L : List Int), (∀ k ∈ L, 2 ≤ k ∧ k ≤ 6) → formB (nest L) = true
  | [], _ => by simp [nest, formB]
  | k :: r, h => by
    have hk := h k (List.mem_cons_self ..)
    have hr := nest_form r (fun x hx => h x (List.mem_cons_of_mem _ hx))
    have : k = 2 ∨ k = 3 ∨ k = 4 ∨ k = 5 ∨ k = 6 := by omega
    rcases this with rfl | rfl | rfl | rfl | rfl <;> simp [nest, formB, formL, hr]
theorem nest_words : ∀ (L : List Int), (∀ k ∈ L, 2 ≤ k ∧ k ≤ 6) → Words (nest L) [(2, false)]
  | [], _ => by simp [nest, Words]
  | k :: r, h => by
    have hk := h k (List.mem_cons_self ..)
    have hr := nest_words r (fun x hx => h x (List.mem_cons_of_mem _ hx))
    have ha : WordsAlt [nest r] [(2, false)] := .inl hr
    have hst : StarL (WordsAlt [nest r]) [(2, false)] := by simpa using StarL.cons (v := []) ha .nil
    have : k = 2 ∨ k = 3 ∨ k = 4 ∨ k = 5 ∨ k = 6 := by omega
    rcases this with rfl | rfl | rfl | rfl | rfl
    · simp only [nest, Words]; exact ⟨_, [], rfl, hr, rfl⟩
    · simp only [nest, Words]; exact ha
    · simp only [nest, Words]; exact hst
    · simp only [nest, Words]; exact ⟨_, [], rfl, ha, .nil⟩
    · simp only [nest, Words]; exact .inr ha
theorem nest_chk (L : List Int) (h : ∀ k ∈ L, 2 ≤ k ∧ k ≤ 6) : chk (nest L) = if L.length < 40 then 0 else 15 := by
  rw [chk, nest_deep, nest_size, nest_form L h]
  by_cases hl : L.length < 40
  · rw [if_pos hl, if_pos (by simp; omega), if_neg (by omega), if_pos rfl]
  · rw [if_neg hl, if_neg (by simp; omega)]

/-- a nest as it lies, but for its outermost path -/
def NestC (w : World) (bx : Nat) : List Int → Value → Value → Value → Prop
  | [], a, b, s => a = .int .i64 0 ∧ b = .int .i64 2 ∧ s = .slice none 0 0
  | k :: r, a, b, s => a = .int .i64 k ∧ b = .int .i64 0 ∧ ∃ g a' b' s', s = .slice (some ⟨g, 0, none⟩) 1 1 ∧ bx < g ∧ w.heap[g]? = some (.cells #[a', b', s'] 30 (0, 0)) ∧ NestC w bx r a' b' s'
theorem nestC_upd {w w' : World} {bx : Nat} (hu : Upd (fun b => b = bx) w w') : ∀ (L : List Int) (a b s : Value), NestC w bx L a b s → NestC w' bx L a b s
  | [], _, _, _, h => h
  | k :: r, a, b, s, h => by
    obtain ⟨h1, h2, g, a', b', s', h3, h4, h5, h6⟩ := h
    exact ⟨h1, h2, g, a', b', s', h3, h4, (hu.block g (block_lt h5) (by intro e; omega)).trans h5, nestC_upd hu r _ _ _ h6⟩
theorem nestC_form {w : World} {bx : Nat} : ∀ {L : List Int} {a b s : Value}, NestC w bx L a b s → ∃ k n A m c, a = .int .i64 k ∧ b = .int .i64 n ∧ s = .slice A m c
  | [], _, _, _, ⟨h1, h2, h3⟩ => ⟨_, _, _, _, _, h1, h2, h3⟩
  | _ :: _, _, _, _, ⟨h1, h2, _, _, _, _, h3, _⟩ => ⟨_, _, _, _, _, h1, h2, h3⟩
theorem nestC_place {w : World} {bx : Nat} : ∀ {L : List Int} {a b s : Value}, NestC w bx L a b s → ∀ g : Nat, w.heap[g]? = some (.cells #[a, b, s] 30 (0, 0)) → PT w (nest L) g 0
  | [], _, _, _, ⟨rfl, rfl, rfl⟩, g, hg => by
    rw [nest, PT]
    exact ⟨block_cell hg 0, block_cell hg 1, none, 0, block_cell hg 2, fun h => absurd rfl h⟩
  | k :: r, _, _, _, ⟨rfl, rfl, g', a', b', s', rfl, _, h5, h6⟩, g, hg => by
    rw [nest, PT]
    refine ⟨block_cell hg 0, block_cell hg 1, _, _, block_cell hg 2, fun _ => ⟨g', 0, rfl, ?_⟩⟩
    rw [PL]
    exact ⟨nestC_place h6 g' h5, by rw [PL]; trivial⟩
theorem nestC_val {w : World} {bx : Nat} : ∀ {L : List Int} {a b s : Value}, NestC w bx L a b s → PV w (nest L) (.agg #[a, b, s])
  | [], _, _, _, ⟨rfl, rfl, rfl⟩ => ⟨_, rfl, none, 0, rfl, fun h => absurd rfl h⟩
  | k :: r, _, _, _, ⟨rfl, rfl, g', a', b', s', rfl, _, h5, h6⟩ => ⟨_, rfl, _, 1, rfl, fun _ => ⟨g', 0, rfl, by rw [PL]; exact ⟨nestC_place h6 g' h5, by rw [PL]; trivial⟩⟩⟩

theorem nest_step {w wo w' : World} {bx : Nat} {L : List Int} {a b s : Value} (k : Int) (hw : w' = (((wo.setCell ⟨bx, 0, none⟩ (.int .i64 k)).setCell ⟨bx, 1, none⟩ (.int .i64 0)).setCell ⟨bx, 2, none⟩ (.slice (some ⟨wo.heap.size, 0, none⟩) 1 1)).alloc (.cells #[a, b, s] 30))
    (hb : wo.heap[bx]? = some (.cells #[a, b, s] 30 (0, 0))) (hN : NestC wo bx L a b s) (hE : Ext w wo) (hbx : w.heap.size ≤ bx) :
    w'.heap[bx]? = some (.cells #[.int .i64 k, .int .i64 0, .slice (some ⟨wo.heap.size, 0, none⟩) 1 1] 30 (0, 0)) ∧ NestC w' bx (k :: L) (.int .i64 k) (.int .i64 0) (.slice (some ⟨wo.heap.size, 0, none⟩) 1 1) ∧ Ext w w' := by
  subst hw
  obtain ⟨w3, hw3⟩ : ∃ w3, w3 = ((wo.setCell ⟨bx, 0, none⟩ (.int .i64 k)).setCell ⟨bx, 1, none⟩ (.int .i64 0)).setCell ⟨bx, 2, none⟩ (.slice (some ⟨wo.heap.size, 0, none⟩) 1 1) := ⟨_, rfl⟩
  rw [← hw3]
  have hs : w3.heap.size = wo.heap.size := by rw [hw3]; simp [World.setCell]
  have hu : Upd (fun x => x = bx) wo w3 := by
    rw [hw3]
    exact upd_trans (upd_trans (upd_setCell (a := ⟨bx, 0, none⟩) _) (upd_setCell (a := ⟨bx, 1, none⟩) _) (fun _ _ h => h)) (upd_setCell (a := ⟨bx, 2, none⟩) _) (fun _ _ h => h)
  have h3 : w3.heap[bx]? = some (.cells #[.int .i64 k, .int .i64 0, .slice (some ⟨wo.heap.size, 0, none⟩) 1 1] 30 (0, 0)) := by
    rw [hw3]
    rw [heap_setCell_at (heap_setCell_at (heap_setCell_at hb))]
    rfl
  have hEa : Ext w3 (w3.alloc (.cells #[a, b, s] 30)) := ext_alloc (ext_refl _) _
  have hua : Upd (fun x => x = bx) wo (w3.alloc (.cells #[a, b, s] 30)) := upd_trans hu (upd_of_ext (fp := fun _ => False) hEa) (fun _ _ h => h.elim)
  have h4 : (w3.alloc (.cells #[a, b, s] 30)).heap[bx]? = some (.cells #[.int .i64 k, .int .i64 0, .slice (some ⟨wo.heap.size, 0, none⟩) 1 1] 30 (0, 0)) := (ext_block hEa (block_lt h3)).trans h3
  refine ⟨h4, ⟨rfl, rfl, wo.heap.size, a, b, s, rfl, block_lt hb, ?_, nestC_upd hua _ _ _ _ hN⟩, ?_⟩
  · have := heap_alloc_new w3 (.cells #[a, b, s] 30)
    rw [hs] at this
    exact this
  · refine ext_trans ?_ hEa
    rw [hw3]
    exact ext_set (ext_set (ext_set hE hbx _) hbx _) hbx _

theorem deep_law (n : Nat) (v : Value) (B : List Nat) (w : World) (hn : n < 256) (hv : RdB w v B) (hB : B.length ≤ maxLen) : Calls Try.prog 4 #[.int .u8 n, v] w fun e w' => e = .returned (.bool true) ∧ Ext w w' := by
  obtain ⟨A0, c0, rfl, hc0, hb0, hA⟩ := hv
  have HA := Lib.hid hA
  have HB0 := Lib.hid hb0
  clear hA hb0
  have hsum : (n % 12 : Nat) < 12 := Nat.mod_lt _ (by decide)
  go_enter Try.func4, Try.ntmps4
  go_wp2_with (go_at_call 19; refine (awake_any _).mono ?_; rintro e w1 ⟨rfl, hE1⟩; have HE1 := Lib.hid hE1; clear hE1)
  · rename_i wa HEa0 _
    refine bodyPost_ret (results_tmp rfl _ _ _) rfl ?_
    exact ⟨rfl, ext_trans HEa0.out HE1.out⟩
  have hbx := heap_alloc_new w1 (.cells #[.int .i64 0, .int .i64 2, .slice none 0 0] 30)
  have HEa := Lib.hid (ext_trans HE1.out (ext_alloc (ext_refl w1) (.cells #[.int .i64 0, .int .i64 2, .slice none 0 0] 30)))
  have hwb := ext_size HE1.out
  obtain ⟨bx, hbxe⟩ : ∃ bx, bx = w1.heap.size := ⟨_, rfl⟩
  rw [← hbxe] at hbx hwb ⊢
  have HBX := Lib.hid hbx
  clear hbx hbxe
  go_loopw [7] (fun x wr => ∃ (L : List Int) (a b s : Value), x = .int .i64 ((L.length + 1 : Nat) : Int) ∧ L.length + 1 ≤ 35 + n % 12 ∧ (∀ k ∈ L, 2 ≤ k ∧ k ≤ 6) ∧ wr.heap[bx]? = some (.cells #[a, b, s] 30 (0, 0)) ∧ NestC wr bx L a b s ∧ Ext w wr) (fun x _ => (35 + n % 12) - (intOf x).toNat)
  case atStart => exact ⟨[], _, _, _, rfl, by simp; omega, by simp, HBX.out, ⟨rfl, rfl, rfl⟩, HEa.out⟩
  case round =>
    rename World => wo
    obtain ⟨L, a, b, s, rfl, hL, hk, hb, hN, hE⟩ := hrel
    obtain ⟨k0, n0, A1, m1, c1, rfl, rfl, rfl⟩ := nestC_form hN
    have HK := Lib.hid hk
    have HB := Lib.hid hb
    have HN := Lib.hid hN
    have HE := Lib.hid hE
    obtain ⟨l, hl⟩ : ∃ l, l = L.length := ⟨_, rfl⟩
    rw [← hl] at hL ⊢
    have HL := Lib.hid hl
    have lb := block_lt hb
    have g0 : wo.cell? ⟨bx, 0, none⟩ = some (.int .i64 k0) := block_cell hb 0
    have g1 : wo.cell? ⟨bx, 1, none⟩ = some (.int .i64 n0) := block_cell hb 1
    have g2 : wo.cell? ⟨bx, 2, none⟩ = some (.slice A1 m1 c1) := block_cell hb 2
    have hfz := block_frozen hb 0
    have hfz1 := block_frozen hb 1
    have hfz2 := block_frozen hb 2
    clear hk hb hN hE hl
    by_cases hlt : l + 1 < 35 + n % 12
    · have hlt' : ((l : Int) + 1) < 35 + (n : Int) % 12 := by omega
      by_cases hin : l + 1 < B.length
      · obtain ⟨y, hy⟩ : ∃ y, B[l + 1]? = some y := ⟨_, List.getElem?_eq_getElem hin⟩
        obtain ⟨b1, off, rfl, hb1, hc1⟩ := HA.out (fun e => by rw [e] at hy; simp at hy)
        have q0 := (ext_cell HE.out _ _ hb1).trans (hc1 _ y hy)
        have l1 := ext_lt HE.out hb1
        have hy6 := HB0.out y (List.mem_of_getElem? hy)
        have hy5 : y % 5 < 5 := Nat.mod_lt _ (by decide)
        clear hc1 hy
        go_wp2
        go_roundw
        case rel =>
          obtain ⟨r1, r2, r3⟩ := nest_step (2 + (y : Int) % 5) rfl HB.out HN.out HE.out hwb
          exact ⟨(2 + (y : Int) % 5) :: L, _, _, _, by rw [List.length_cons, ← HL.out]; go_num, by rw [List.length_cons, ← HL.out]; omega, fun k hk => by
            rcases List.mem_cons.1 hk with rfl | hk
            · omega
            · exact HK.out k hk, r1, r2, r3⟩
        case measure => simp [intOf]; omega
      · go_wp2
        go_roundw
        case rel =>
          obtain ⟨r1, r2, r3⟩ := nest_step 2 rfl HB.out HN.out HE.out hwb
          exact ⟨2 :: L, _, _, _, by rw [List.length_cons, ← HL.out]; go_num, by rw [List.length_cons, ← HL.out]; omega, fun k hk => by
            rcases List.mem_cons.1 hk with rfl | hk
            · omega
            · exact HK.out k hk, r1, r2, r3⟩
        case measure => simp [intOf]; omega
    · have hv := nestC_val HN.out
      have hc := nest_chk L HK.out
      rw [← HL.out] at hc
      by_cases hlo : l < 40
      · rw [if_pos hlo] at hc
        have CY := Lib.hid (compile_yes _ _ wo hv hc)
        have hdd : (35 + (n : Int) % 12) ≤ 40 := by omega
        clear hv hc
        go_wp2_with fail
        refine CY.out.mono ?_
        rintro e w2 ⟨p, rfl, hM, hE2⟩
        have HM := Lib.hid hM
        have HE2 := Lib.hid (ext_trans HE.out hE2)
        clear hM hE2 g0 g1 g2 hfz hfz1 hfz2 lb CY
        go_wp2_with fail
        have h0 := heap_alloc_new w2 (.cells #[.int .i64 2, .bool false] 42)
        have hE0 := ext_alloc (ext_refl w2) (.cells #[.int .i64 2, .bool false] 42)
        have hM := machT_ext HM.out hE0
        have hr := rdY_block (L := [(2, false)]) (n := 1) h0 (fun i x hx => by
          rcases i with _ | i
          · simp at hx; subst hx; exact ⟨rfl, rfl⟩
          · simp at hx) rfl
        refine (takes_any _ _ p _ _ _ _ _ _ (machT_mach hM) hr (by simp)).mono ?_
        rintro e w4 ⟨b, rfl, hb, hE4⟩
        have hb1 : b = true := hb.2 ((machT_words hM _).2 (nest_words L HK.out))
        have HE4 := Lib.hid (ext_trans HE2.out (ext_trans hE0 hE4))
        subst hb1
        clear hb hE4 h0 hE0 hM hr
        go_wp2
        refine bodyPost_ret (results_tmp rfl _ _ _) rfl ?_
        exact ⟨rfl, HE4.out⟩
      · rw [if_neg hlo] at hc
        have CN := Lib.hid (compile_no _ _ wo (by rw [nest_size, ← HL.out]; omega) hv (by rw [hc]; decide))
        unfold CompNo at CN
        rw [hc] at CN
        have hdd : 40 < (35 + (n : Int) % 12) := by omega
        clear hv hc
        go_wp2_with (go_at_call 22; refine CN.out.mono ?_; rintro e w2 ⟨rfl, hE2⟩; have HE2 := Lib.hid hE2; clear hE2)
        refine bodyPost_ret (results_tmp rfl _ _ _) rfl ?_
        exact ⟨rfl, ext_trans HE.out HE2.out⟩
end Go.Proofs.Ytiabmdboacpmcaa
