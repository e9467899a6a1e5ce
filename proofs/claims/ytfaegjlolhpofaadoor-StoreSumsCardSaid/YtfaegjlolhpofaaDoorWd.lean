import Derived.Test.YtfaegjlolhpofaaDoorWc
namespace Go.Proofs.YtfaegjlolhpofaaDoor
open Go.RowKit Go.Sort
set_option maxHeartbeats 800000

theorem find1_any (o : Int) (b : Nat) (x y : Key) (w : World) (hL : Laid w) (ho : w.cell? ⟨b, 0, none⟩ = some (.int .i64 o)) :
    Calls Tryd.prog 39 #[K3 x.a x.b x.c, K3 y.a y.b y.c, .pointer (some ⟨b, 0, none⟩)] w fun e w' => e = .returned (.int .i64 (Key.cmp o x y)) ∧ Ext w w' := by
  have HL := Lib.hid hL
  have l0 := World.block_lt_of_cell? _ _ ho
  clear hL
  go_enter Tryd.func39, Tryd.ntmps39
  go_wp2_with (go_at_call 29; refine (compare_any _ _ _ _ ?_).mono ?_; (exact laid_ext HL.out (by (repeat (first | exact ext_refl _ | refine ext_drew ?_ | refine ext_alloc ?_ _ | refine ext_grow ?_ _ _)))); rintro e w1 ⟨rfl, hE⟩)
  have HE := Lib.hid hE
  clear hE
  go_ret
  exact ⟨rfl, ext_trans (ext_alloc (ext_alloc (ext_refl _) _) _) HE.out⟩

/-- where a key is, or would be -/
def SearchAt (o : Int) (ks : List Key) (t : Key) (i : Nat) : Prop := i ≤ ks.length ∧ (∀ k, k < i → Key.cmp o (kat ks k) t < 0) ∧ (∀ k, i ≤ k → k < ks.length → 0 ≤ Key.cmp o (kat ks k) t)
def foundB (o : Int) (ks : List Key) (t : Key) (i : Nat) : Bool := decide (i < ks.length) && (Key.cmp o (kat ks i) t == 0)
def SearchPost (o : Int) (ks : List Key) (t : Key) (w : World) (e : Ending) (w' : World) : Prop := ∃ i : Nat, SearchAt o ks t i ∧ e = .returned (.tuple #[.int .i64 i, .bool (foundB o ks t i)]) ∧ Ext w w'

theorem bsearch_any (o : Int) (b ob n cap : Nat) (ks : List Key) (t : Key) (w : World) (hL : Laid w) (ho : w.cell? ⟨ob, 0, none⟩ = some (.int .i64 o)) (hk : KeysIn w b ks) (hb : b < w.heap.size)
   (hn : n = ks.length) (hm : n ≤ 1000000) (hmono : ∀ i j, i ≤ j → j < n → Key.cmp o (kat ks j) t < 0 → Key.cmp o (kat ks i) t < 0) :
    Calls Tryd.prog 38 #[.slice (some ⟨b, 0, none⟩) n cap, K3 t.a t.b t.c, .func (.func 39) #[] #[.pointer (some ⟨ob, 0, none⟩)]] w (SearchPost o ks t w) := by
  have HL := Lib.hid hL
  have l0 := World.block_lt_of_cell? _ _ ho
  have HK := Lib.hid hk
  have HM := Lib.hid hmono
  clear hL hk hmono
  have HN := Lib.hid hn
  clear hn
  go_enter Tryd.func38, Tryd.ntmps38
  go_wp2
  refine wp_gen (fun W hW => ?_)
  have t0 : W.cell? ⟨w.heap.size, 0, none⟩ = some (.int .i64 t.a) := by rw [hW]; go_simp
  have t1 : W.cell? ⟨w.heap.size, 1, none⟩ = some (.int .i64 t.b) := by rw [hW]; go_simp
  have t2 : W.cell? ⟨w.heap.size, 2, none⟩ = some (.int .i64 t.c) := by rw [hW]; go_simp
  have HE := Lib.hid (show Ext w W by rw [hW]; exact ext_alloc (ext_refl _) _)
  have lt := World.block_lt_of_cell? _ _ t0
  clear hW
  go_loopw [9, 10] (fun i j wr => ∃ lo hi : Nat, lo ≤ hi ∧ hi ≤ n ∧ i = .int .i64 lo ∧ j = .int .i64 hi ∧ (∀ k, k < lo → Key.cmp o (kat ks k) t < 0) ∧ (∀ k, hi ≤ k → k < n → 0 ≤ Key.cmp o (kat ks k) t) ∧ Ext W wr) (fun i j _ => ((intOf j) - (intOf i)).toNat)
  case atStart => exact ⟨0, n, by omega, by omega, rfl, rfl, fun k h => by omega, fun k h1 h2 => by omega, ext_refl _⟩
  case round =>
    obtain ⟨lo, hi, hlh, hhn, rfl, rfl, hlow, hhigh, hE⟩ := hrel
    have HEr := Lib.hid hE
    have j0 : wr.cell? ⟨w.heap.size, 0, none⟩ = some (.int .i64 t.a) := (ext_cell hE _ _ lt).trans t0
    have j1 : wr.cell? ⟨w.heap.size, 1, none⟩ = some (.int .i64 t.b) := (ext_cell hE _ _ lt).trans t1
    have j2 : wr.cell? ⟨w.heap.size, 2, none⟩ = some (.int .i64 t.c) := (ext_cell hE _ _ lt).trans t2
    have HEw := Lib.hid (ext_trans HE.out hE)
    have b1 : b < wr.heap.size := ext_lt HEw.out hb
    have b2 : w.heap.size < wr.heap.size := ext_lt hE lt
    have HO := Lib.hid ((ext_cell HEw.out _ _ l0).trans ho)
    have b3 : ob < wr.heap.size := ext_lt HEw.out l0
    have hgc := cell_grown
    have HLOW := Lib.hid hlow
    have HHIGH := Lib.hid hhigh
    clear hE hlow hhigh t0 t1 t2 ho
    by_cases hlt : lo < hi
    · obtain ⟨m, hmm⟩ : ∃ m : Nat, m = (lo + hi) / 2 := ⟨_, rfl⟩
      have hmid : ((lo : Int) + (hi : Int)) / 2 = (m : Int) := by omega
      have HMID := Lib.hid hmid
      clear hmid
      have hml : lo ≤ m := by omega
      have hmh : m < hi := by omega
      have hmn : m < n := by omega
      have hmi : (m : Int) < (n : Int) := by omega
      have hm0 : (0 : Int) ≤ (m : Int) := by omega
      have HMM := Lib.hid hmm
      clear hmm
      obtain ⟨k0, k1, k2⟩ := HK.out m (by rw [← HN.out]; exact hmn)
      have q0 := (ext_cell HEw.out _ _ hb).trans k0
      have q1 := (ext_cell HEw.out _ _ hb).trans k1
      have q2 := (ext_cell HEw.out _ _ hb).trans k2
      clear k0 k1 k2
      go_wp2
      rw [HMID.out]
      refine wp_region_free 8 [0, 1, 2, 3, 4, 5, 6, 7] [] (by kernel_rfl) (by kernel_rfl) ?_
      repeat (refine wpLoose_step rfl (fun K hK => ?_); (try simp only [Oper.quietAt, Oper.quietUpon]); go_simp; first | (refine hK _ ?_; clear hK K) | (apply Exists.intro; refine ⟨fun p => ?_, hK _ ?_⟩; (go_at_call 39; refine find1_any o ob _ _ _ ?_ ?_); (exact laid_ext HL.out (ext_grow HEw.out _ _)); (exact (cell_grown _ _ _ _ _ b3).trans HO.out); clear hK K))
      refine wpLoose_nil (wpFresh_nil (fun w3 hE3 _ => ?_))
      have HE3 := Lib.hid hE3
      clear hE3
      simp only [List.drop_succ_cons, List.drop_zero]
      refine wpList_nil ?_
      by_cases hc : Key.cmp o (kat ks m) t < 0
      · go_wp2
        go_roundw
        case rel => exact ⟨m + 1, hi, by omega, by omega, by go_num, rfl, fun k hk => HM.out k m (by omega) hmn hc, HHIGH.out, ext_trans HEr.out HE3.out⟩
        case measure => simp [intOf]; omega
      · have hc' : 0 ≤ Key.cmp o (kat ks m) t := by omega
        go_wp2
        go_roundw
        case rel => exact ⟨lo, m, by omega, by omega, rfl, rfl, HLOW.out, fun k h1 h2 => by
          rcases Int.lt_or_le (Key.cmp o (kat ks k) t) 0 with h | h
          · exact absurd (HM.out m k h1 h2 h) hc
          · exact h, ext_trans HEr.out HE3.out⟩
        case measure => simp [intOf]; omega
    · have hle : hi = lo := by omega
      subst hle
      by_cases hin : hi < n
      · have hii : (hi : Int) < (n : Int) := by omega
        have hi0 : (0 : Int) ≤ (hi : Int) := by omega
        obtain ⟨k0, k1, k2⟩ := HK.out hi (by rw [← HN.out]; exact hin)
        have q0 := (ext_cell HEw.out _ _ hb).trans k0
        have q1 := (ext_cell HEw.out _ _ hb).trans k1
        have q2 := (ext_cell HEw.out _ _ hb).trans k2
        clear k0 k1 k2
        go_wp2
        refine wp_region_free 16 [0, 1, 2, 3, 4, 5, 6, 7, 8, 9, 10, 11, 12, 13, 14, 15] [] (by kernel_rfl) (by kernel_rfl) ?_
        repeat (refine wpLoose_step rfl (fun K hK => ?_); (try simp only [Oper.quietAt, Oper.quietUpon]); go_simp; first | (refine hK _ ?_; clear hK K) | (apply Exists.intro; refine ⟨fun p => ?_, hK _ ?_⟩; (go_at_call 39; refine find1_any o ob _ _ _ ?_ ?_); (exact laid_ext HL.out (ext_grow HEw.out _ _)); (exact (cell_grown _ _ _ _ _ b3).trans HO.out); clear hK K))
        refine wpLoose_nil (wpFresh_nil (fun w3 hE3 _ => ?_))
        have HE3 := Lib.hid hE3
        clear hE3
        simp only [List.drop_succ_cons, List.drop_zero]
        refine wpList_nil ?_
        go_wp2
        go_ret2
        exact ⟨hi, ⟨by rw [← HN.out]; exact hhn, HLOW.out, fun k h1 h2 => HHIGH.out k h1 (by rw [HN.out]; exact h2)⟩, by unfold foundB; rw [← HN.out]; simp [hin], ext_trans HEw.out HE3.out⟩
      · have hii : hi = n := by omega
        subst hii
        go_wp2
        refine wp_region_free 16 [0, 1, 2, 3, 4, 5, 6, 7, 8, 9, 10, 11, 12, 13, 14, 15] [] (by kernel_rfl) (by kernel_rfl) ?_
        repeat (refine wpLoose_step rfl (fun K hK => ?_); (try simp only [Oper.quietAt, Oper.quietUpon]); go_simp; (refine hK _ ?_; clear hK K))
        refine wpLoose_nil (wpFresh_nil (fun w3 hE3 _ => ?_))
        have HE3 := Lib.hid hE3
        clear hE3
        simp only [List.drop_succ_cons, List.drop_zero]
        refine wpList_nil ?_
        go_wp2
        go_ret2
        exact ⟨hi, ⟨by rw [← HN.out]; exact Nat.le_refl _, HLOW.out, fun k h1 h2 => HHIGH.out k h1 (by rw [HN.out]; exact h2)⟩, by unfold foundB; rw [← HN.out]; simp, ext_trans HEw.out HE3.out⟩
end Go.Proofs.YtfaegjlolhpofaaDoor
