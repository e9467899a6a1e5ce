/- What Symbols sorts by; slices.SortFunc at symbols. -/
import Derived.Test.YtiabmdboacpmcaaFd
import Derived.Shelf.SlSortCmp.WholeK
import Derived.Test.YtiabmdboacpmcaaQi
import Derived.Test.YtiabmdboacpmcaaQp
namespace Go.Proofs.Ytiabmdboacpmcaa
open Go Go.RowKit Go.Sort
set_option maxHeartbeats 4000000


/-- a symbol's way as a number -/
def wayN (b : Bool) : Int := if b then 1 else 0
theorem way_any (n : Int) (b : Bool) (w : World) : Calls Try.prog 81 #[.agg #[.int .i64 n, .bool b]] w fun e w' => e = .returned (.int .i64 (wayN b)) ∧ DD.Ext w w' := by
  cases b with
  | true =>
    go_enter Try.func81, Try.ntmps81
    go_wp2
    refine bodyPost_ret (results_tmp rfl _ _ _) rfl ?_
    exact ⟨rfl, DD.ext_alloc (DD.ext_refl _) _⟩
  | false =>
    go_enter Try.func81, Try.ntmps81
    go_wp2
    refine bodyPost_ret (results_tmp rfl _ _ _) rfl ?_
    exact ⟨rfl, DD.ext_alloc (DD.ext_refl _) _⟩
def orI (a b : Int) : Int := if a = 0 then b else a
theorem or_any (a b : Int) (g : Nat) (w : World) (hb : w.heap[g]? = some (.cells #[.int .i64 a, .int .i64 b] 3 (0, 0))) : Calls Try.prog 84 #[.slice (some ⟨g, 0, none⟩) 2 2] w fun e w' => e = .returned (.int .i64 (orI a b)) ∧ w' = w := by
  have q0 : w.cell? ⟨g, 0, none⟩ = some (.int .i64 a) := block_cell hb 0
  have q1 : w.cell? ⟨g, 1, none⟩ = some (.int .i64 b) := block_cell hb 1
  have lb := block_lt hb
  clear hb
  by_cases ha : a = 0
  · have da : (a != 0) = false := by rw [ha]; rfl
    have hr : orI a b = b := by unfold orI; rw [if_pos ha]
    rw [hr]
    clear hr
    by_cases hb0 : b = 0
    · have db : (b != 0) = false := by rw [hb0]; rfl
      have HB0 := Lib.hid hb0
      clear ha hb0
      go_enter Try.func84, Try.ntmps84
      go_wp2
      go_loopw [8] (fun x wr => ∃ j : Nat, j ≤ 2 ∧ x = .int .i64 (j : Int) ∧ wr = w) (fun x _ => 2 - (intOf x).toNat)
      case atStart => exact ⟨0, by omega, rfl, rfl⟩
      case round =>
        obtain ⟨j, hj, rfl, rfl⟩ := hrel
        obtain rfl | rfl | rfl : j = 0 ∨ j = 1 ∨ j = 2 := by omega
        · go_wp2
          go_roundw
          case rel => exact ⟨1, by omega, by go_num, trivial⟩
          case measure => simp [intOf]
        · go_wp2
          go_roundw
          case rel => exact ⟨2, by omega, by go_num, trivial⟩
          case measure => simp [intOf]
        · go_wp2
          refine bodyPost_ret (results_tmp rfl _ _ _) rfl ?_
          exact ⟨by rw [HB0.out]; rfl, rfl⟩
    · have db : (b != 0) = true := by simpa using hb0
      clear ha hb0
      go_enter Try.func84, Try.ntmps84
      go_wp2
      go_loopw [8] (fun x wr => ∃ j : Nat, j ≤ 1 ∧ x = .int .i64 (j : Int) ∧ wr = w) (fun x _ => 2 - (intOf x).toNat)
      case atStart => exact ⟨0, by omega, rfl, rfl⟩
      case round =>
        obtain ⟨j, hj, rfl, rfl⟩ := hrel
        obtain rfl | rfl : j = 0 ∨ j = 1 := by omega
        · go_wp2
          go_roundw
          case rel => exact ⟨1, by omega, by go_num, trivial⟩
          case measure => simp [intOf]
        · go_wp2
          refine bodyPost_ret (results_tmp rfl _ _ _) rfl ?_
          exact ⟨rfl, rfl⟩
  · have da : (a != 0) = true := by simpa using ha
    have hr : orI a b = a := by unfold orI; rw [if_neg ha]
    rw [hr]
    clear hr ha
    go_enter Try.func84, Try.ntmps84
    go_wp2
    go_loopw [8] (fun x wr => x = .int .i64 0 ∧ wr = w) (fun _ _ => 0)
    case atStart => exact ⟨rfl, rfl⟩
    case round =>
      obtain ⟨rfl, rfl⟩ := hrel
      go_wp2
      refine bodyPost_ret (results_tmp rfl _ _ _) rfl ?_
      exact ⟨rfl, rfl⟩
/-- how two symbols are sorted -/
def cmpS (x y : Sy) : Int := orI (Lib.compareInt (wayN x.2) (wayN y.2)) (Lib.compareInt x.1 y.1)
theorem eg81 (args : Array Value) (w : World) : (callFunc 81 args).run Try.prog w = .ok (.enter 81 args) w := enter_fn Try.func81 (by kernel_rfl) rfl args w
theorem cmpS_any (x y : Sy) (pb : Nat) (w : World) (hb : w.heap[pb]? = some (.cells #[.func (.func 81) #[] #[]] 142 (0, 0))) : Calls Try.prog 83 #[.agg #[.int .i64 x.1, .bool x.2], .agg #[.int .i64 y.1, .bool y.2], .pointer (some ⟨pb, 0, none⟩)] w fun e w' => e = .returned (.int .i64 (cmpS x y)) ∧ DD.Ext w w' := by
  obtain ⟨x1, x2⟩ := x
  obtain ⟨y1, y2⟩ := y
  simp only
  have HB := Lib.hid hb
  clear hb
  go_enter Try.func83, Try.ntmps83
  go_wp2_with fail
  obtain ⟨h1, h2⟩ := heap_two w (.cells #[.int .i64 x1, .bool x2] 42) (.cells #[.int .i64 y1, .bool y2] 42)
  have hE := DD.ext_alloc (DD.ext_alloc (DD.ext_refl w) (.cells #[.int .i64 x1, .bool x2] 42)) (.cells #[.int .i64 y1, .bool y2] 42)
  obtain ⟨w0, hw0⟩ : ∃ w0, w0 = (w.alloc (.cells #[.int .i64 x1, .bool x2] 42)).alloc (.cells #[.int .i64 y1, .bool y2] 42) := ⟨_, rfl⟩
  obtain ⟨g1, hg1⟩ : ∃ g, g = w.heap.size := ⟨_, rfl⟩
  obtain ⟨g2, hg2⟩ : ∃ g, g = w.heap.size + 1 := ⟨_, rfl⟩
  rw [← hw0] at h1 h2 hE ⊢
  rw [← hg2] at h2 ⊢
  rw [← hg1] at h1 ⊢
  have hpb := (DD.ext_block hE (block_lt HB.out)).trans HB.out
  have p0 : w0.cell? ⟨pb, 0, none⟩ = some (.func (.func 81) #[] #[]) := block_cell hpb 0
  have a0 : w0.cell? ⟨g1, 0, none⟩ = some (.int .i64 x1) := block_cell h1 0
  have a1 : w0.cell? ⟨g1, 1, none⟩ = some (.bool x2) := block_cell h1 1
  have b0 : w0.cell? ⟨g2, 0, none⟩ = some (.int .i64 y1) := block_cell h2 0
  have b1 : w0.cell? ⟨g2, 1, none⟩ = some (.bool y2) := block_cell h2 1
  have l0 := block_lt hpb
  have l1 := block_lt h1
  have l2 := block_lt h2
  have HE := Lib.hid hE
  have hgc := cell_grown
  clear hw0 hg1 hg2 h1 h2 hE hpb
  refine DD.wp_region_mix [] [0, 1, 2, 3, 4, 5, 6, 7, 8, 9, 10, 11] [12] [13, 14] (by kernel_rfl) (by kernel_rfl) (fun _ _ d _ _ h => by cases d <;> exact h) ?_
  refine DD.wpPre_nil ?_
  repeat (refine DD.wpLoose_step rfl (fun K hK => ?_); (try simp only [Oper.quietAt, Oper.quietUpon]); go_simp; first | (refine hK _ ?_; clear hK K) | (apply Exists.intro; refine ⟨fun p => ?_, hK _ ?_⟩; (first | (go_at_call 81; exact way_any _ _ _) | (go_at_call 85; refine (Try.cmp_Compare_int _ _ _).mono ?_; rintro e w' ⟨rfl, rfl⟩; exact ⟨rfl, DD.ext_refl _⟩)); clear hK K))
  refine DD.wpLoose_nil ?_
  refine DD.wpFresh_step (fun p => .slice (some ⟨p, 0, none⟩) 2 2) (.cells #[.int .i64 (Lib.compareInt (wayN x2) (wayN y2)), .int .i64 (Lib.compareInt x1 y1)] 3) rfl rfl (fun _ => by go_simp) (fun p1 hp1 hn1 => ?_)
  refine DD.wpFresh_nil (fun w5 hE5 hs5 => ?_)
  have HP5 := Lib.hid hs5.2
  have HE5 := Lib.hid (DD.ext_trans HE.out hE5)
  clear hs5 hE5 hp1 hn1 p0 a0 a1 b0 b1 l0 l1 l2 hgc
  refine DD.wpSeq_of_list [13, 14] [_, _] _ _ rfl ?_
  simp only [Act.put, List.getElem_toArray, List.getElem_cons_succ, List.getElem_cons_zero, List.setIfInBounds_toArray, List.set_cons_succ, List.set_cons_zero]
  go_wp2_with (go_at_call 84; refine (or_any _ _ p1 w5 HP5.out).mono ?_; rintro e w' ⟨rfl, rfl⟩)
  refine bodyPost_ret (results_tmp rfl _ _ _) rfl ?_
  exact ⟨rfl, HE5.out⟩
theorem dd_grow {w w' : World} (h : DD.Ext w w') : ∃ q os, w' = grow (w.drewN q) os := by
  obtain ⟨⟨d, os⟩, rfl⟩ := DD.regrown_of_below h
  have hd : w.drawn ≤ d := h.2
  refine ⟨d - w.drawn, os, ?_⟩
  have : redrawn w d = w.drewN (d - w.drawn) := by
    simp only [redrawn, World.drewN]
    congr 1
    omega
  rw [this]

def Try.laysF82_ren : Go.Shelf.Ren := ⟨fun | 6 => 82 | 14 => 105 | 15 => 97 | 20 => 118 | 21 => 119 | 22 => 120 | 23 => 121 | 24 => 122 | 25 => 123 | 26 => 124 | 27 => 125 | 28 => 116 | 29 => 117 | 46 => 131 | 47 => 127 | 48 => 128 | 49 => 132 | 50 => 133 | 57 => 135 | n => n, fun | 0 => 0 | 3 => 3 | 4 => 4 | 5 => 5 | 9 => 9 | 22 => 43 | 25 => 146 | 39 => 109 | 45 => 163 | 46 => 164 | 50 => 69 | 53 => 170 | 55 => 172 | 66 => 178 | 70 => 182 | 76 => 186 | 77 => 187 | 24 => 42 | n => n, fun | n => n⟩
theorem Try.laysF82 : Go.Proofs.SlLaysF0.n6 Try.prog Try.laysF82_ren := {
  mixed := by kernel_rfl
  f6 := ⟨Try.f82.name, by decide, Try.func82.trans (congrArg some (by kernel_rfl))⟩
  f14 := ⟨Try.f105.name, by decide, Try.func105.trans (congrArg some (by kernel_rfl))⟩
  f15 := Try.func97.trans (congrArg some (by kernel_rfl))
  f20 := ⟨Try.f118.name, by decide, Try.func118.trans (congrArg some (by kernel_rfl))⟩
  f21 := ⟨Try.f119.name, by decide, Try.func119.trans (congrArg some (by kernel_rfl))⟩
  f22 := ⟨Try.f120.name, by decide, Try.func120.trans (congrArg some (by kernel_rfl))⟩
  f23 := ⟨Try.f121.name, by decide, Try.func121.trans (congrArg some (by kernel_rfl))⟩
  f24 := ⟨Try.f122.name, by decide, Try.func122.trans (congrArg some (by kernel_rfl))⟩
  f25 := ⟨Try.f123.name, by decide, Try.func123.trans (congrArg some (by kernel_rfl))⟩
  f26 := ⟨Try.f124.name, by decide, Try.func124.trans (congrArg some (by kernel_rfl))⟩
  f27 := ⟨Try.f125.name, by decide, Try.func125.trans (congrArg some (by kernel_rfl))⟩
  f28 := Try.func116.trans (congrArg some (by kernel_rfl))
  f29 := Try.func117.trans (congrArg some (by kernel_rfl))
  f46 := ⟨Try.f131.name, by decide, Try.func131.trans (congrArg some (by kernel_rfl))⟩
  f47 := Try.func127.trans (congrArg some (by kernel_rfl))
  f48 := Try.func128.trans (congrArg some (by kernel_rfl))
  f49 := ⟨Try.f132.name, by decide, Try.func132.trans (congrArg some (by kernel_rfl))⟩
  f50 := ⟨Try.f133.name, by decide, Try.func133.trans (congrArg some (by kernel_rfl))⟩
  f57 := ⟨Try.f135.name, by decide, Try.func135.trans (congrArg some (by kernel_rfl))⟩
  t0 := Try.underlying0
  a0 := Try.isAgg0
  z0 := Try.sizeOf0
  v0 := Try.zeroValue0
  t3 := Try.underlying3
  a3 := Try.isAgg3
  z3 := Try.sizeOf3
  v3 := Try.zeroValue3
  t4 := Try.underlying4
  a4 := Try.isAgg4
  z4 := Try.sizeOf4
  v4 := Try.zeroValue4
  t5 := Try.underlying5
  a5 := Try.isAgg5
  z5 := Try.sizeOf5
  v5 := Try.zeroValue5
  t9 := Try.underlying9
  a9 := Try.isAgg9
  z9 := Try.sizeOf9
  v9 := Try.zeroValue9
  t22 := Try.underlying43
  a22 := Try.isAgg43
  z22 := Try.sizeOf43
  v22 := Try.zeroValue43
  t25 := Try.underlying146
  a25 := Try.isAgg146
  z25 := Try.sizeOf146
  v25 := Try.zeroValue146
  t39 := Try.underlying109
  a39 := Try.isAgg109
  z39 := Try.sizeOf109
  v39 := Try.zeroValue109
  t45 := Try.underlying163
  a45 := Try.isAgg163
  z45 := Try.sizeOf163
  v45 := Try.zeroValue163
  t46 := Try.underlying164
  a46 := Try.isAgg164
  z46 := Try.sizeOf164
  v46 := Try.zeroValue164
  t50 := Try.underlying69
  a50 := Try.isAgg69
  z50 := Try.sizeOf69
  v50 := Try.zeroValue69
  t53 := Try.underlying170
  a53 := Try.isAgg170
  z53 := Try.sizeOf170
  v53 := Try.zeroValue170
  t55 := Try.underlying172
  a55 := Try.isAgg172
  z55 := Try.sizeOf172
  v55 := Try.zeroValue172
  t66 := Try.underlying178
  a66 := Try.isAgg178
  z66 := Try.sizeOf178
  v66 := Try.zeroValue178
  t70 := Try.underlying182
  a70 := Try.isAgg182
  z70 := Try.sizeOf182
  v70 := Try.zeroValue182
  t76 := Try.underlying186
  a76 := Try.isAgg186
  z76 := Try.sizeOf186
  v76 := Try.zeroValue186
  t77 := Try.underlying187
  a77 := Try.isAgg187
  z77 := Try.sizeOf187
  v77 := Try.zeroValue187 }
theorem compareInt_neg (x y : Int) : Go.Lib.compareInt x y < 0 ↔ x < y := by
  unfold Go.Lib.compareInt
  split
  · rename_i h; simp [h]
  · rename_i h
    split <;> simp <;> omega
theorem compareInt_zero (x y : Int) : Go.Lib.compareInt x y = 0 ↔ x = y := by
  unfold Go.Lib.compareInt
  split
  · rename_i h; simp; omega
  · split <;> simp <;> omega
theorem cmpS_neg (x y : Sy) : cmpS x y < 0 ↔ wayN x.2 < wayN y.2 ∨ wayN x.2 = wayN y.2 ∧ x.1 < y.1 := by
  unfold cmpS orI
  split
  · rename_i h
    rw [compareInt_zero] at h
    rw [compareInt_neg]
    omega
  · rename_i h
    rw [compareInt_zero] at h
    rw [compareInt_neg]
    omega
theorem swoS : SWO (ltOf cmpS) where
  irrefl x := by
    unfold ltOf
    rw [decide_eq_false_iff_not, cmpS_neg]
    omega
  trans x y z h1 h2 := by
    unfold ltOf at *
    rw [decide_eq_true_eq, cmpS_neg] at *
    omega
  ntrans x y z h1 h2 := by
    unfold ltOf at *
    rw [decide_eq_false_iff_not, cmpS_neg] at *
    omega
/-- symbols in order -/
def SortedS (L : List Sy) : Prop := L.Pairwise fun x y => ¬ cmpS y x < 0
theorem eg83 (args : Array Value) (w : World) : (callFunc 83 args).run Try.prog w = .ok (.enter 83 args) w := enter_fn Try.func83 (by kernel_rfl) rfl args w
theorem sortF_any (H : Nat) (v : Value) (L : List Sy) (pb : Nat) (w : World) (hb : w.heap[pb]? = some (.cells #[.func (.func 81) #[] #[]] 142 (0, 0))) (h : rowF elY H L v w) (hne : L ≠ []) (hm : L.length ≤ 1000000) :
    Calls Try.prog 82 #[v, .func (.func 83) #[] #[.pointer (some ⟨pb, 0, none⟩)]] w fun e w' => e = .returned (.tuple #[]) ∧ ∃ L', L'.Perm L ∧ SortedS L' ∧ rowF elY H L' v w' ∧ Upd (fun b => v.ownBlock = some b) w w' := by
  rcases rowE_cases h.1 with ⟨_, h0⟩ | ⟨g, cap, cur, rfl, hg, -, -, -, -⟩
  · exact absurd h0 hne
  · have hpg : pb ≠ g := fun e => by rw [e, hg] at hb; cases hb
    have hcmp : CmpLays Try.prog 83 #[.pointer (some ⟨pb, 0, none⟩)] elY.enc 2 cmpS g 0 L.toArray.size w := by
      intro m os dk hs x y
      have hu := (row_putK (L' := dk.toList) h.1 (by simpa using hs) m os).2
      rw [Array.toArray_toList] at hu
      have hpb := (hu.block pb (block_lt hb) hpg).trans hb
      exact (cmpS_any x y pb _ hpb).mono fun e w' ⟨he, hE⟩ => ⟨he, dd_grow hE⟩
    have hr := AnyQ.slices_SortFunc Try.laysF82 2 Try.isAgg42 Try.sizeOf42 elY.enc elY.hl elY.h1 cmpS swoS 83 #[.pointer (some ⟨pb, 0, none⟩)] g 0 cap L.toArray w eg83 hcmp (holdsK_row h.1) (block_lt hg) (by simp; omega)
    simp only [List.size_toArray] at hr
    refine hr.mono ?_
    rintro e w' ⟨rfl, d', n, os, hp, hs, rfl⟩
    have hsz : d'.size = L.length := by simpa using hp.1
    have hpt := row_putK (L' := d'.toList) h.1 (by simpa using hsz) n os
    rw [Array.toArray_toList] at hpt
    refine ⟨rfl, d'.toList, ?_, ?_, ⟨hpt.1, h.2⟩, upd_mono hpt.2 (fun b _ e => by rw [e]; rfl)⟩
    · have := hp.2.2
      have h2 : (List.take L.length d'.toList).Perm L := by
        rw [← hsz] at this
        simpa [hsz] using this
      rwa [List.take_of_length_le (by rw [Array.length_toList]; omega)] at h2
    · refine List.pairwise_iff_getElem.2 (fun i j hi hj hij => ?_)
      have := hs i j (Nat.zero_le _) hij (by rw [← hsz]; simpa using hj)
      rw [getElem!_pos d' j (by simpa using hj), getElem!_pos d' i (by simpa using hi)] at this
      unfold ltOf at this
      rw [decide_eq_false_iff_not] at this
      simpa using this
end Go.Proofs.Ytiabmdboacpmcaa
