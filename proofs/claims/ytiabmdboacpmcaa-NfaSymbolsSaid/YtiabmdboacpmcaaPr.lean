/- awake. -/
import Derived.Test.YtiabmdboacpmcaaPq
namespace Go.Proofs.Ytiabmdboacpmcaa
open Go Go.RowKit Go.Sort
set_option maxHeartbeats 1000000

def trA : Tr := .node 4 0 [.node 0 0 []]
theorem chkA : chk trA = 0 := by simp [chk, trA, deepB, deepL, sizeT, sizeL, formB, formL]
theorem wordsA1 : Words trA [] := by
  simp only [trA, Words]
  exact .nil
theorem wordsA2 : Words trA [(0, false), (0, false)] := by
  simp only [trA, Words]
  exact .cons (u := [(0, false)]) (v := [(0, false)]) (.inl rfl) (.cons (u := [(0, false)]) (v := []) (.inl rfl) .nil)
theorem wordsA3 : ¬ Words trA [(1, false)] := by
  simp only [trA, Words]
  intro h
  obtain ⟨w, hw⟩ : ∃ w : List Sy, w = [(1, false)] := ⟨_, rfl⟩
  rw [← hw] at h
  induction h with
  | nil => cases hw
  | cons h1 h2 ih =>
    rename_i u v
    simp [WordsAlt, Words] at h1
    subst h1
    simp at hw

/-- a row of symbols just built -/
theorem rdY_block {w : World} {g : Nat} {L : List Sy} {cs : Array Value} {t : TypeId} {fr : Nat × Nat} (h : w.heap[g]? = some (.cells cs t fr)) (hc : ∀ (i : Nat) (x : Sy), L[i]? = some x → cs[i * 2]? = some (.int .i64 x.1) ∧ cs[i * 2 + 1]? = some (.bool x.2)) {n : Nat} (hn : n = L.length) : RdY w (.slice (some ⟨g, 0, none⟩) n n) L := by
  subst hn
  refine ⟨_, _, rfl, Nat.le_refl _, fun _ => ⟨g, 0, rfl, block_lt h, fun i x hx => ?_⟩⟩
  obtain ⟨h1, h2⟩ := hc i x hx
  rw [Nat.zero_add]
  exact ⟨by rw [block_cell h, h1], by rw [block_cell h, h2]⟩
theorem rdY_nil (w : World) : RdY w (.slice none 0 0) [] := ⟨none, 0, rfl, Nat.le_refl _, fun h => absurd rfl h⟩

theorem awake_any (w : World) : Calls Try.prog 19 #[] w fun e w' => e = .returned (.bool true) ∧ Ext w w' := by
  go_enter Try.func19, Try.ntmps19
  go_wp2_with fail
  have h0 := heap_alloc_new w (.cells #[.int .i64 0, .int .i64 0, .slice none 0 0] 30)
  have hE0 := ext_alloc (ext_refl w) (.cells #[.int .i64 0, .int .i64 0, .slice none 0 0] 30)
  have hv : PV (w.alloc (.cells #[.int .i64 0, .int .i64 0, .slice none 0 0] 30)) trA (.agg #[.int .i64 4, .int .i64 0, .slice (some ⟨w.heap.size, 0, none⟩) 1 1]) := by
    refine ⟨_, rfl, some ⟨w.heap.size, 0, none⟩, 1, rfl, fun _ => ⟨_, _, rfl, ?_⟩⟩
    rw [PL]
    refine ⟨?_, by rw [PL]; trivial⟩
    rw [PT]
    exact ⟨block_cell h0 0, block_cell h0 1, none, 0, block_cell h0 2, fun h => absurd rfl h⟩
  refine (compile_yes trA _ _ hv chkA).mono ?_
  rintro e w1 ⟨p, rfl, hM, hE1⟩
  have HM := Lib.hid hM
  have HE1 := Lib.hid (ext_trans hE0 hE1)
  clear h0 hE0 hv hM hE1
  go_wp2_with fail
  refine (takes_any _ _ p _ _ _ _ _ [] (machT_mach HM.out) (rdY_nil _) (by simp)).mono ?_
  rintro e w2 ⟨b, rfl, hb, hE2⟩
  have hb1 : b = true := hb.2 ((machT_words HM.out _).2 wordsA1)
  have HE2 := Lib.hid hE2
  subst hb1
  clear hb hE2
  go_wp2_with fail
  have h0 := heap_alloc_new w2 (.cells #[.int .i64 0, .bool false, .int .i64 0, .bool false] 42)
  have hE0 := ext_alloc (ext_refl w2) (.cells #[.int .i64 0, .bool false, .int .i64 0, .bool false] 42)
  have hM := machT_ext HM.out (ext_trans HE2.out hE0)
  have hr := rdY_block (L := [(0, false), (0, false)]) (n := 2) h0 (fun i x hx => by
    rcases i with _ | _ | i
    · simp at hx; subst hx; exact ⟨rfl, rfl⟩
    · simp at hx; subst hx; exact ⟨rfl, rfl⟩
    · simp at hx) rfl
  refine (takes_any _ _ p _ _ _ _ _ _ (machT_mach hM) hr (by simp)).mono ?_
  rintro e w3 ⟨b, rfl, hb, hE3⟩
  have hb1 : b = true := hb.2 ((machT_words hM _).2 wordsA2)
  have HE3 := Lib.hid (ext_trans (ext_trans HE2.out hE0) hE3)
  subst hb1
  clear hb hE3 h0 hE0 hM hr HE2
  go_wp2_with fail
  have h0 := heap_alloc_new w3 (.cells #[.int .i64 1, .bool false] 42)
  have hE0 := ext_alloc (ext_refl w3) (.cells #[.int .i64 1, .bool false] 42)
  have hM := machT_ext HM.out (ext_trans HE3.out hE0)
  have hr := rdY_block (L := [(1, false)]) (n := 1) h0 (fun i x hx => by
    rcases i with _ | i
    · simp at hx; subst hx; exact ⟨rfl, rfl⟩
    · simp at hx) rfl
  refine (takes_any _ _ p _ _ _ _ _ _ (machT_mach hM) hr (by simp)).mono ?_
  rintro e w4 ⟨b, rfl, hb, hE4⟩
  have hb1 : b = false := by
    cases b with
    | false => rfl
    | true => exact absurd ((machT_words hM _).1 (hb.1 rfl)) wordsA3
  have HE4 := Lib.hid (ext_trans HE1.out (ext_trans (ext_trans HE3.out hE0) hE4))
  subst hb1
  clear hb hE4 h0 hE0 hM hr HE3
  go_wp2
  refine bodyPost_ret (results_tmp rfl _ _ _) rfl ?_
  exact ⟨rfl, HE4.out⟩
end Go.Proofs.Ytiabmdboacpmcaa
