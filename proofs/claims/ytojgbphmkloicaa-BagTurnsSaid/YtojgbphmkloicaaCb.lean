/- slices.SortFunc, SortedFunc at keys. -/
import Derived.Test.YtojgbphmkloicaaCa
import Derived.Shelf.SlSortCmp.WholeK
namespace Go.Proofs.Ytojgbphmkloicaa
open Go Go.RowKit Go.Sort
set_option maxHeartbeats 4000000

def Try.laysF29_ren : Go.Shelf.Ren := ⟨fun | 6 => 29 | 15 => 35 | 14 => 34 | 28 => 45 | 29 => 46 | 20 => 37 | 21 => 38 | 22 => 39 | 23 => 40 | 24 => 41 | 25 => 42 | 26 => 43 | 27 => 44 | 46 => 47 | 47 => 48 | 48 => 49 | 49 => 50 | 50 => 51 | 57 => 52 | n => n, fun | 22 => 56 | 24 => 36 | 25 => 63 | 3 => 3 | 39 => 73 | 0 => 0 | 53 => 87 | 55 => 89 | 4 => 4 | 46 => 81 | 45 => 80 | 50 => 48 | 5 => 5 | 9 => 9 | 66 => 90 | 70 => 94 | 76 => 96 | 77 => 97 | n => n, fun | n => n⟩
theorem Try.laysF29  : Go.Proofs.SlLaysF0.n6 Try.prog Try.laysF29_ren := {
  mixed := by kernel_rfl
  f6 := ⟨Try.f29.name, by decide, Try.func29.trans (congrArg some (by kernel_rfl))⟩
  f14 := ⟨Try.f34.name, by decide, Try.func34.trans (congrArg some (by kernel_rfl))⟩
  f15 := Try.func35.trans (congrArg some (by kernel_rfl))
  f20 := ⟨Try.f37.name, by decide, Try.func37.trans (congrArg some (by kernel_rfl))⟩
  f21 := ⟨Try.f38.name, by decide, Try.func38.trans (congrArg some (by kernel_rfl))⟩
  f22 := ⟨Try.f39.name, by decide, Try.func39.trans (congrArg some (by kernel_rfl))⟩
  f23 := ⟨Try.f40.name, by decide, Try.func40.trans (congrArg some (by kernel_rfl))⟩
  f24 := ⟨Try.f41.name, by decide, Try.func41.trans (congrArg some (by kernel_rfl))⟩
  f25 := ⟨Try.f42.name, by decide, Try.func42.trans (congrArg some (by kernel_rfl))⟩
  f26 := ⟨Try.f43.name, by decide, Try.func43.trans (congrArg some (by kernel_rfl))⟩
  f27 := ⟨Try.f44.name, by decide, Try.func44.trans (congrArg some (by kernel_rfl))⟩
  f28 := Try.func45.trans (congrArg some (by kernel_rfl))
  f29 := Try.func46.trans (congrArg some (by kernel_rfl))
  f46 := ⟨Try.f47.name, by decide, Try.func47.trans (congrArg some (by kernel_rfl))⟩
  f47 := Try.func48.trans (congrArg some (by kernel_rfl))
  f48 := Try.func49.trans (congrArg some (by kernel_rfl))
  f49 := ⟨Try.f50.name, by decide, Try.func50.trans (congrArg some (by kernel_rfl))⟩
  f50 := ⟨Try.f51.name, by decide, Try.func51.trans (congrArg some (by kernel_rfl))⟩
  f57 := ⟨Try.f52.name, by decide, Try.func52.trans (congrArg some (by kernel_rfl))⟩
  t0 := Try.underlying0
  a0 := Try.isAgg0
  z0 := Try.sizeOf0
  v0 := Try.zeroValue0
  t3 := Try.underlying3
  a3 := Try.isAgg3
  z3 := Try.sizeOf3
  v3 := Try.zeroValue3
  t4 := Try.underlying4
  a4 := Try.isAgg4
  z4 := Try.sizeOf4
  v4 := Try.zeroValue4
  t5 := Try.underlying5
  a5 := Try.isAgg5
  z5 := Try.sizeOf5
  v5 := Try.zeroValue5
  t9 := Try.underlying9
  a9 := Try.isAgg9
  z9 := Try.sizeOf9
  v9 := Try.zeroValue9
  t22 := Try.underlying56
  a22 := Try.isAgg56
  z22 := Try.sizeOf56
  v22 := Try.zeroValue56
  t25 := Try.underlying63
  a25 := Try.isAgg63
  z25 := Try.sizeOf63
  v25 := Try.zeroValue63
  t39 := Try.underlying73
  a39 := Try.isAgg73
  z39 := Try.sizeOf73
  v39 := Try.zeroValue73
  t45 := Try.underlying80
  a45 := Try.isAgg80
  z45 := Try.sizeOf80
  v45 := Try.zeroValue80
  t46 := Try.underlying81
  a46 := Try.isAgg81
  z46 := Try.sizeOf81
  v46 := Try.zeroValue81
  t50 := Try.underlying48
  a50 := Try.isAgg48
  z50 := Try.sizeOf48
  v50 := Try.zeroValue48
  t53 := Try.underlying87
  a53 := Try.isAgg87
  z53 := Try.sizeOf87
  v53 := Try.zeroValue87
  t55 := Try.underlying89
  a55 := Try.isAgg89
  z55 := Try.sizeOf89
  v55 := Try.zeroValue89
  t66 := Try.underlying90
  a66 := Try.isAgg90
  z66 := Try.sizeOf90
  v66 := Try.zeroValue90
  t70 := Try.underlying94
  a70 := Try.isAgg94
  z70 := Try.sizeOf94
  v70 := Try.zeroValue94
  t76 := Try.underlying96
  a76 := Try.isAgg96
  z76 := Try.sizeOf96
  v76 := Try.zeroValue96
  t77 := Try.underlying97
  a77 := Try.isAgg97
  z77 := Try.sizeOf97
  v77 := Try.zeroValue97 }
theorem swoK : SWO (ltOf cmpK) where
  irrefl x := by
    unfold ltOf
    rw [decide_eq_false_iff_not, cmpK_neg]
    exact ltK_irrefl x
  trans x y z h1 h2 := by
    unfold ltOf at *
    rw [decide_eq_true_eq, cmpK_neg] at *
    exact ltK_trans h1 h2
  ntrans x y z h1 h2 := by
    unfold ltOf at *
    rw [decide_eq_false_iff_not, cmpK_neg] at *
    unfold ltK at *
    omega
theorem eg19 (args : Array Value) (w : World) : (callFunc 19 args).run Try.prog w = .ok (.enter 19 args) w := enters_of Try.func19 (by kernel_rfl) rfl args w
theorem sortF_any (H : Nat) (v : Value) (L : List Key) (w : World) (h : rowF elK H L v w) (hne : L ≠ []) (hm : L.length ≤ 1000000) :
    Calls Try.prog 29 #[v, .func (.func 19) #[] #[]] w fun e w' => e = .returned (.tuple #[]) ∧ ∃ L', L'.Perm L ∧ L'.Pairwise (fun x y => ¬ ltK y x) ∧ rowF elK H L' v w' ∧ Upd (fun b => v.ownBlock = some b) w w' := by
  rcases rowE_cases h.1 with ⟨_, h0⟩ | ⟨g, cap, cur, rfl, hg, -, -, -, -⟩
  · exact absurd h0 hne
  · have hcmp : CmpLays Try.prog 19 #[] elK.enc 3 cmpK g 0 L.toArray.size w := by
      intro m os dk hs x y
      exact (cmpK_any x y _).mono fun e w' ⟨he, hE⟩ => ⟨he, dd_grow hE⟩
    have hr := AnyQ.slices_SortFunc Try.laysF29 3 Try.isAgg36 Try.sizeOf36 elK.enc elK.hl elK.h1 cmpK swoK 19 #[] g 0 cap L.toArray w eg19 hcmp (holdsK_row h.1) (block_lt hg) (by simp; omega)
    simp only [List.size_toArray] at hr
    refine hr.mono ?_
    rintro e w' ⟨rfl, d', n, os, hp, hs, rfl⟩
    have hsz : d'.size = L.length := by simpa using hp.1
    have hpt := row_putK (L' := d'.toList) h.1 (by simpa using hsz) n os
    rw [Array.toArray_toList] at hpt
    refine ⟨rfl, d'.toList, ?_, ?_, ⟨hpt.1, h.2⟩, upd_mono hpt.2 (fun b _ e => by rw [e]; rfl)⟩
    · have := hp.2.2
      have h2 : (List.take L.length d'.toList).Perm L := by
        rw [← hsz] at this
        simpa [hsz] using this
      rwa [List.take_of_length_le (by rw [Array.length_toList]; omega)] at h2
    · refine List.pairwise_iff_getElem.2 (fun i j hi hj hij => ?_)
      have := hs i j (Nat.zero_le _) hij (by rw [← hsz]; simpa using hj)
      rw [getElem!_pos d' j (by simpa using hj), getElem!_pos d' i (by simpa using hi)] at this
      unfold ltOf at this
      rw [decide_eq_false_iff_not, cmpK_neg] at this
      simpa using this
end Go.Proofs.Ytojgbphmkloicaa
