/- Where a time's bucket is: cmp.Compare, slices.BinarySearchFunc, find, in, Len, New. -/
import Derived.Test.YtojgbphmkloicaaBa
namespace Go.Proofs.Ytojgbphmkloicaa
open Go Go.RowKit Go.Sort
set_option maxHeartbeats 1000000

def cmpI (a b : Int) : Int := if a < b then -1 else if b < a then 1 else 0
theorem isNaN_any (a : Int) (w : World) : Calls Try.prog 31 #[.int .i64 a] w fun e w' => e = .returned (.bool false) ∧ w' = w := by
  go_enter Try.func31, Try.ntmps31
  go_wp2
  refine bodyPost_ret (results_tmp rfl _ _ _) rfl ?_
  exact ⟨rfl, rfl⟩
theorem cmp_any (a b : Int) (w : World) : Calls Try.prog 25 #[.int .i64 a, .int .i64 b] w fun e w' => e = .returned (.int .i64 (cmpI a b)) ∧ w' = w := by
  unfold cmpI
  go_enter Try.func25, Try.ntmps25
  by_cases h1 : a < b
  · rw [if_pos h1]
    go_wp2_with (go_at_call 31; refine (isNaN_any _ _).mono ?_; rintro e w1 ⟨rfl, rfl⟩)
    refine bodyPost_ret (results_tmp rfl _ _ _) rfl ?_
    exact ⟨rfl, rfl⟩
  · rw [if_neg h1]
    by_cases h2 : b < a
    · rw [if_pos h2]
      go_wp2_with (go_at_call 31; refine (isNaN_any _ _).mono ?_; rintro e w1 ⟨rfl, rfl⟩)
      refine bodyPost_ret (results_tmp rfl _ _ _) rfl ?_
      exact ⟨rfl, rfl⟩
    · rw [if_neg h2]
      go_wp2_with (go_at_call 31; refine (isNaN_any _ _).mono ?_; rintro e w1 ⟨rfl, rfl⟩)
      refine bodyPost_ret (results_tmp rfl _ _ _) rfl ?_
      exact ⟨rfl, rfl⟩
theorem cmpB_any (p : Nat) (x t : Int) (w : World) (hp : w.cell? ⟨p, 0, none⟩ = some (.int .i64 x)) : Calls Try.prog 24 #[ptr p, .int .i64 t] w fun e w' => e = .returned (.int .i64 (cmpI x t)) ∧ w' = w := by
  have l0 := World.block_lt_of_cell? _ _ hp
  go_enter Try.func24, Try.ntmps24
  go_wp2_with (go_at_call 25; refine (cmp_any _ _ _).mono ?_; rintro e w1 ⟨rfl, rfl⟩)
  refine bodyPost_ret (results_tmp rfl _ _ _) rfl ?_
  exact ⟨rfl, rfl⟩
theorem row_ptr {w : World} {g n c : Nat} {L : List Nat} (h : rowE elBk w (.slice (some ⟨g, 0, none⟩) n c) L) {i p : Nat} (hx : L[i]? = some p) : w.cell? ⟨g, i, none⟩ = some (ptr p) := by
  have h1 := rowE_cell h hx (j := 0) (u := ptr p) rfl
  have h2 : i * elBk.size + 0 = i := Nat.mul_one i
  rwa [h2] at h1
theorem bag_at {w : World} {pb : Nat} {room : Int} {bs : List Bk} {ps : List (Nat × Nat)} {v : Value} {F : Nat → Prop} (h : BagAt w pb room bs ps v F) {i : Nat} {b : Bk} (hb : bs[i]? = some b) : ∃ p m, ps[i]? = some (p, m) ∧ BkAt w p m b ∧ (ps.map (·.1))[i]? = some p := by
  have hi : i < ps.length := by rw [h.len]; exact (List.getElem?_eq_some_iff.1 hb).1
  obtain ⟨⟨p, m⟩, hp⟩ : ∃ x, ps[i]? = some x := ⟨_, List.getElem?_eq_getElem hi⟩
  exact ⟨p, m, hp, h.at_ i p m b hp hb, by rw [List.getElem?_map, hp]; rfl⟩
theorem bsearch_any (pb : Nat) (room : Int) (bs : List Bk) (ps : List (Nat × Nat)) (v : Value) (F : Nat → Prop) (t : Int) (w : World) (h : BagAt w pb room bs ps v F) (hm : bs.length ≤ 1000000) :
    Calls Try.prog 23 #[v, .int .i64 t, .func (.func 24) #[] #[]] w fun e w' => e = .returned (.tuple #[.int .i64 (idxB bs t : Int), .bool (thereB bs t)]) ∧ w' = w := by
  have H := Lib.hid h
  have hml : (ps.map (·.1)).length = bs.length := by rw [List.length_map, h.len]
  have HLT := Lib.hid (fun (i : Nat) (b : Bk) (hb : bs[i]? = some b) => idxB_lt (t := t) h.rise i b hb)
  have hile := idxB_le bs t
  obtain ⟨A, c, rfl⟩ := rowE_form h.row
  have hrow := Lib.hid h.row
  rw [hml] at hrow H ⊢
  obtain ⟨x, hx⟩ : ∃ x, x = idxB bs t := ⟨_, rfl⟩
  have HX := Lib.hid hx
  rw [← hx] at HLT hile ⊢
  clear h hx hml
  obtain ⟨n, hn⟩ : ∃ n, n = bs.length := ⟨_, rfl⟩
  rw [← hn] at hrow H hm hile ⊢
  have HN := Lib.hid hn
  clear hn
  go_enter Try.func23, Try.ntmps23
  go_wp2
  go_loopw [9, 10] (fun i j wr => ∃ lo hi : Nat, lo ≤ x ∧ x ≤ hi ∧ hi ≤ n ∧ i = .int .i64 lo ∧ j = .int .i64 hi ∧ wr = w) (fun i j _ => ((intOf j) - (intOf i)).toNat)
  case atStart => exact ⟨0, n, Nat.zero_le _, hile, Nat.le_refl _, rfl, rfl, by trivial⟩
  case round =>
    obtain ⟨lo, hi, h1, h2, h3, rfl, rfl, rfl⟩ := hrel
    by_cases hlt : lo < hi
    · obtain ⟨m, hmm⟩ : ∃ m : Nat, m = (lo + hi) / 2 := ⟨_, rfl⟩
      have HMID := Lib.hid (show ((lo : Int) + (hi : Int)) / 2 = (m : Int) by omega)
      have hml : lo ≤ m := by omega
      have hmh : m < hi := by omega
      have hmn : m < n := by omega
      have hmi : (m : Int) < (n : Int) := by omega
      have hm0 : (0 : Int) ≤ (m : Int) := by omega
      have HMM := Lib.hid hmm
      clear hmm
      obtain ⟨b, hb⟩ : ∃ b, bs[m]? = some b := ⟨_, List.getElem?_eq_getElem (by rw [← HN.out]; exact hmn)⟩
      obtain ⟨p, pm, hp1, hp2, hp3⟩ := bag_at H.out hb
      obtain ⟨g, rfl, hg⟩ := rowE_some hrow.out (fun e => by rw [e] at hp3; simp at hp3)
      have q0 : wr.cell? ⟨g, (lo + hi) / 2, none⟩ = some (ptr p) := by rw [← HMM.out]; exact row_ptr hrow.out hp3
      have CB := Lib.hid (cmpB_any p b.1 t wr (block_cell hp2.blk 0))
      have hcx : m < x ↔ b.1 < t := HLT.out m b hb
      obtain ⟨y, hy⟩ : ∃ y, y = cmpI b.1 t := ⟨_, rfl⟩
      rw [← hy] at CB
      have hcy : y < 0 ↔ m < x := by
        rw [hcx, hy]
        unfold cmpI
        split
        · rename_i h; simp [h]
        · rename_i h; split <;> simp [h]
      have HCY := Lib.hid hcy
      clear hb hp1 hp2 hp3 hcx hy hcy
      by_cases hc : y < 0
      · have hmx : m < x := HCY.out.1 hc
        go_wp2_with (go_at_call 24; refine CB.out.mono ?_; rintro e w1 ⟨rfl, rfl⟩)
        go_roundw
        case rel => exact ⟨m + 1, hi, by omega, h2, h3, by rw [HMM.out]; congr 1, rfl, by trivial⟩
        case measure => simp [intOf]; omega
      · have hmx : ¬ m < x := fun h => hc (HCY.out.2 h)
        go_wp2_with (go_at_call 24; refine CB.out.mono ?_; rintro e w1 ⟨rfl, rfl⟩)
        go_roundw
        case rel => exact ⟨lo, m, h1, by omega, by omega, rfl, by rw [HMM.out]; congr 1, by trivial⟩
        case measure => simp [intOf]; omega
    · obtain rfl : lo = x := by omega
      obtain rfl : hi = lo := by omega
      by_cases hin : hi < n
      · have hii : (hi : Int) < (n : Int) := by omega
        have hi0 : (0 : Int) ≤ (hi : Int) := by omega
        obtain ⟨b, hb⟩ : ∃ b, bs[hi]? = some b := ⟨_, List.getElem?_eq_getElem (by rw [← HN.out]; exact hin)⟩
        obtain ⟨p, pm, hp1, hp2, hp3⟩ := bag_at H.out hb
        obtain ⟨g, rfl, hg⟩ := rowE_some hrow.out (fun e => by rw [e] at hp3; simp at hp3)
        have q0 := row_ptr hrow.out hp3
        have CB := Lib.hid (cmpB_any p b.1 t wr (block_cell hp2.blk 0))
        have HT := Lib.hid (show thereB bs t = decide (cmpI b.1 t = 0) by
          unfold thereB
          rw [← HX.out, hb]
          simp only []
          rw [Bool.eq_iff_iff, decide_eq_true_iff, decide_eq_true_iff]
          unfold cmpI
          split
          · omega
          · split <;> omega)
        obtain ⟨y, hy⟩ : ∃ y, y = cmpI b.1 t := ⟨_, rfl⟩
        rw [← hy] at CB HT
        clear hb hp1 hp2 hp3 hy hg
        by_cases hy0 : y = 0
        · have hyb : (y == 0) = true := by simpa using hy0
          go_wp2_with (go_at_call 24; refine CB.out.mono ?_; rintro e w1 ⟨rfl, rfl⟩)
          go_ret2
          exact ⟨by rw [HT.out, decide_eq_true hy0]; rfl, rfl⟩
        · have hyb : (y == 0) = false := by simpa using hy0
          go_wp2_with (go_at_call 24; refine CB.out.mono ?_; rintro e w1 ⟨rfl, rfl⟩)
          go_ret2
          exact ⟨by rw [HT.out, decide_eq_false hy0]; rfl, rfl⟩
      · obtain rfl : hi = n := by omega
        have HT := Lib.hid (show thereB bs t = false by
          unfold thereB
          rw [← HX.out, List.getElem?_eq_none (by rw [← HN.out]; exact Nat.le_refl _)])
        go_wp2
        go_ret2
        exact ⟨by rw [HT.out]; rfl, rfl⟩
end Go.Proofs.Ytojgbphmkloicaa
