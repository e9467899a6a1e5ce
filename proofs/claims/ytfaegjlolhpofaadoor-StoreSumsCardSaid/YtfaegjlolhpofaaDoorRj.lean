/- The document's store: Scan, Add, Remove, Find, as the plain law has them. -/
import Derived.Test.YtfaegjlolhpofaaDoorPm
import Derived.Test.YtfaegjlolhpofaaDoorRd
import Derived.Test.YtfaegjlolhpofaaDoorRf
import Derived.Test.YtfaegjlolhpofaaDoorWn
import Derived.Test.YtfaegjlolhpofaaDoorSf
namespace Go.Proofs.YtfaegjlolhpofaaDoor
open Go.RowKit Go.Sort
set_option maxHeartbeats 800000

theorem refscan_nil (room : Int) (p : Key) (w : World) : Calls Tryd.prog 22 #[RS room (.slice none 0 0), K3 p.a p.b p.c] w fun e w' => ∃ lv', e = .returned lv' ∧ rowL w' lv' (scanL p []) ∧ Ext w w' := by
  go_enter Tryd.func22, Tryd.ntmps22
  go_wp2_with (go_at_call 11; refine (reforder_any p _).mono ?_; rintro e w1 ⟨rfl, hE⟩; have HE := Lib.hid hE; clear hE; have g0 := (Below.heap_alloc (w.alloc (.cells #[.int .i64 room, .slice none 0 0] 47)) (.cells #[.int .i64 p.a, .int .i64 p.b, .int .i64 p.c] 22) w.heap.size (by simp)).trans (heap_alloc_new w _); have G0 := Lib.hid ((ext_block HE.out (block_lt g0)).trans g0); clear g0; have q1 : w1.cell? ⟨w.heap.size, 1, none⟩ = some (.slice none 0 0) := block_cell G0.out 1; have m0 := block_lt G0.out)
  have HE0 := Lib.hid (ext_trans (ext_alloc (ext_alloc (ext_refl w) (.cells #[.int .i64 room, .slice none 0 0] 47)) (.cells #[.int .i64 p.a, .int .i64 p.b, .int .i64 p.c] 22)) HE.out)
  clear q1
  go_loopw [18, 5] (fun x y wr => x = .int .i64 0 ∧ y = .slice none 0 0 ∧ Ext w1 wr) (fun x _ _ => 0)
  case atStart => exact ⟨rfl, rfl, ext_refl _⟩
  case round =>
    obtain ⟨rfl, rfl, hEr⟩ := hrel
    have HEr := Lib.hid hEr
    clear hEr
    go_wp2
    go_ret
    exact ⟨_, rfl, World.ownsRow_nil _ _ _ _, ext_trans HE0.out HEr.out⟩

theorem refscan_any (room : Int) (lv : Value) (L : List Key) (p : Key) (w : World) (hr : rowL w lv L) (hm : L.length < 100000) :
    Calls Tryd.prog 22 #[RS room lv, K3 p.a p.b p.c] w fun e w' => ∃ lv', e = .returned lv' ∧ rowL w' lv' (scanL p L) ∧ Ext w w' := by
  rcases rowL_cases hr with ⟨rfl, rfl⟩ | ⟨g, cap, cur, rfl, _⟩
  · exact refscan_nil room p w
  · exact refscan_row room g cap L p w hr hm

theorem idxL_lt {L : List Key} {k : Key} : idxL L k 0 < 0 ↔ k ∉ L := by
  constructor
  · intro h hm
    obtain ⟨i, _, h2, _⟩ := idxL_pos L k 0 hm
    omega
  · intro h
    rw [idxL_neg L k 0 (Int.le_refl _) h]; decide

theorem refadd_any (room : Int) (lv : Value) (L : List Key) (k : Key) (w : World) (hr : rowL w lv L) (hm : L.length < 1000000) :
    Calls Tryd.prog 20 #[RS room lv, K3 k.a k.b k.c] w fun e w' => ∃ lv', e = .returned (.tuple #[RS room lv', .int .i64 (addC room L k)]) ∧ rowL w' lv' (addL room L k) ∧ Ext w w' := by
  by_cases h1 : k.a < 0 ∨ k.b < 0 ∨ k.c < 0
  · have hc : addC room L k = 2 := by unfold addC; rw [if_pos h1]
    have hl : addL room L k = L := by unfold addL; rw [hc]; rfl
    rw [hc, hl]
    refine (refadd_neg room lv L k w hr h1).mono ?_
    rintro e w' ⟨rfl, hE⟩
    exact ⟨_, rfl, row_ext hr hE, hE⟩
  · have ha : 0 ≤ k.a := by omega
    have hb : 0 ≤ k.b := by omega
    have hc : 0 ≤ k.c := by omega
    by_cases h2 : k ∈ L
    · have e : addC room L k = 5 := by unfold addC; rw [if_neg h1, if_pos h2]
      have hl : addL room L k = L := by unfold addL; rw [e]; rfl
      rw [e, hl]
      have hi : 0 ≤ idxL L k 0 := by
        obtain ⟨i, _, h3, _⟩ := idxL_pos L k 0 h2
        omega
      refine (refadd_there room lv L k w hr hm ha hb hc hi).mono ?_
      rintro e w' ⟨rfl, hE⟩
      exact ⟨_, rfl, row_ext hr hE, hE⟩
    · by_cases h3 : room ≤ L.length
      · have e : addC room L k = 6 := by unfold addC; rw [if_neg h1, if_neg h2, if_pos h3]
        have hl : addL room L k = L := by unfold addL; rw [e]; rfl
        rw [e, hl]
        refine (refadd_full room lv L k w hr hm ha hb hc (idxL_lt.2 h2) h3).mono ?_
        rintro e w' ⟨rfl, hE⟩
        exact ⟨_, rfl, row_ext hr hE, hE⟩
      · have e : addC room L k = 0 := by unfold addC; rw [if_neg h1, if_neg h2, if_neg h3]
        have hl : addL room L k = L ++ [k] := by unfold addL; rw [e]; rfl
        rw [e, hl]
        exact refadd_ok room lv L k w hr hm ha hb hc (idxL_lt.2 h2) (by omega)

theorem refremove_any (room : Int) (lv : Value) (L : List Key) (k : Key) (w : World) (hr : rowL w lv L) (hm : L.length < 1000000) :
    Calls Tryd.prog 23 #[RS room lv, K3 k.a k.b k.c] w fun e w' => ∃ lv', e = .returned (.tuple #[RS room lv', .int .i64 (remC L k)]) ∧ rowL w' lv' (remL L k) ∧ Ext w w' := by
  by_cases h2 : k ∈ L
  · obtain ⟨i, h3, h4, h5⟩ := idxL_pos L k 0 h2
    have e : remC L k = 0 := by unfold remC; rw [if_pos h2]
    have hl : remL L k = L.take i ++ L.drop (i + 1) := h5.symm
    rw [e, hl]
    exact refremove_ok room lv L k w hr hm i (by omega) h3
  · have e : remC L k = 4 := by unfold remC; rw [if_neg h2]
    have hl : remL L k = L := List.erase_of_not_mem h2
    rw [e, hl]
    refine (refremove_none room lv L k w hr hm (idxL_lt.2 h2)).mono ?_
    rintro e w' ⟨rfl, hE⟩
    exact ⟨_, rfl, row_ext hr hE, hE⟩

/-- a store that holds just the keys of a list; F: its blocks -/
structure Sto (w : World) (F : Nat → Prop) (s : Nat) (L : List Key) (room : Int) (v : Nat → Value) (r : Nat → List Key) : Prop where
  at_ : StoreAt w s v r room
  sorted : ∀ i : Nat, i < 3 → Sorted i (r i)
  perm : ∀ i : Nat, i < 3 → (r i).Perm L
  foot : ∀ b, F b ↔ fpS s v b
  nn : ∀ k ∈ L, Nonneg k
def St (w : World) (F : Nat → Prop) (s : Nat) (L : List Key) (room : Int) : Prop := ∃ v r, Sto w F s L room v r
theorem St.nn {w : World} {F : Nat → Prop} {s : Nat} {L : List Key} {room : Int} (h : St w F s L room) : ∀ k ∈ L, Nonneg k := by
  obtain ⟨_, _, h⟩ := h; exact h.nn
theorem St.nodup {w : World} {F : Nat → Prop} {s : Nat} {L : List Key} {room : Int} (h : St w F s L room) : L.Nodup := by
  obtain ⟨_, _, h⟩ := h; exact (List.Perm.nodup_iff (h.perm 0 (by omega))).1 (sorted_nodup (h.sorted 0 (by omega)))
theorem st_ext {w w' : World} {F : Nat → Prop} {s : Nat} {L : List Key} {room : Int} (h : St w F s L room) (hE : Ext w w') : St w' F s L room := by
  obtain ⟨v, r, h⟩ := h; exact ⟨v, r, store_ext h.at_ hE, h.sorted, h.perm, h.foot, h.nn⟩
theorem store_upd {fp : Nat → Prop} {w w' : World} {s : Nat} {v : Nat → Value} {r : Nat → List Key} {room : Int} (h : StoreAt w s v r room) (hu : Upd fp w w') (hn : ∀ b, fpS s v b → ¬ fp b) : StoreAt w' s v r room :=
  ⟨(hu.block s (block_lt h.blk) (hn s (.inl rfl))).trans h.blk, fun i hi => row_upd (h.row i hi) hu (fun b hb => hn b (.inr ⟨i, hi, hb⟩)), h.off, h.apart, h.high⟩
theorem st_upd {fp : Nat → Prop} {w w' : World} {F : Nat → Prop} {s : Nat} {L : List Key} {room : Int} (h : St w F s L room) (hu : Upd fp w w') (hn : ∀ b, F b → ¬ fp b) : St w' F s L room := by
  obtain ⟨v, r, h⟩ := h; exact ⟨v, r, store_upd h.at_ hu (fun b hb => hn b ((h.foot b).2 hb)), h.sorted, h.perm, h.foot, h.nn⟩
theorem st_lt {w : World} {F : Nat → Prop} {s : Nat} {L : List Key} {room : Int} (h : St w F s L room) {b : Nat} (hb : F b) : b < w.heap.size := by
  obtain ⟨v, r, h⟩ := h; exact fpS_lt h.at_ ((h.foot b).1 hb)
theorem st_high {w : World} {F : Nat → Prop} {s : Nat} {L : List Key} {room : Int} (h : St w F s L room) {b : Nat} (hb : F b) : 1 < b := by
  obtain ⟨v, r, h⟩ := h; exact fpS_high h.at_ ((h.foot b).1 hb)
/-- blocks of other types are not the store's -/
theorem st_off {w : World} {F : Nat → Prop} {s : Nat} {L : List Key} {room : Int} (h : St w F s L room) {b : Nat} {cs : Array Value} {t : TypeId} {fr : Nat × Nat} (hb : w.heap[b]? = some (.cells cs t fr)) (h1 : t ≠ 25) (h2 : t ≠ 65) : ¬ F b := by
  obtain ⟨v, r, h⟩ := h
  intro hF
  rcases (h.foot b).1 hF with rfl | ⟨i, hi, ho⟩
  · have := h.at_.blk
    rw [hb] at this
    simp only [Option.some.injEq, Obj.cells.injEq] at this
    exact h2 this.2.1
  · rcases row_cases (h.at_.row i hi) with ⟨e, _⟩ | ⟨g, cap, cur, e, hg, _⟩
    · rw [e] at ho; cases ho
    · rw [e] at ho; cases ho
      rw [hb] at hg
      simp only [Option.some.injEq, Obj.cells.injEq] at hg
      exact h1 hg.2.1
theorem rowL_off {w : World} {F : Nat → Prop} {s : Nat} {L M : List Key} {room : Int} {lv : Value} (h : St w F s L room) (hr : rowL w lv M) : ∀ b, lv.ownBlock = some b → ¬ F b := fun b hb => by
  rcases rowL_cases hr with ⟨rfl, _⟩ | ⟨g, cap, cur, rfl, hg, _⟩
  · cases hb
  · cases hb
    exact st_off h hg (by decide) (by decide)
theorem laid_st {w w1 : World} {F : Nat → Prop} {s : Nat} {L : List Key} {room : Int} (h : Laid w) (hS : St w F s L room) (hu : Upd F w w1) : Laid w1 :=
  laid_upd h hu (fun h0 => by have := st_high hS h0; omega) (fun h0 => by have := st_high hS h0; omega)

/-- what a call that writes leaves of a store -/
def Wrote (F : Nat → Prop) (s : Nat) (L' : List Key) (room : Int) (w w' : World) : Prop := ∃ F', St w' F' s L' room ∧ Upd F w w' ∧ (∀ b, F' b → F b ∨ w.heap.size ≤ b)
theorem wrote_ext {F : Nat → Prop} {s : Nat} {L : List Key} {room : Int} {w w' : World} (h : St w F s L room) (hE : Ext w w') : Wrote F s L room w w' := ⟨F, st_ext h hE, upd_of_ext hE, fun _ h => .inl h⟩
theorem kept_wrote {w w' : World} {F : Nat → Prop} {s : Nat} {L L' : List Key} {room : Int} {v v' : Nat → Value} {r r' : Nat → List Key} (h : Sto w F s L room v r) (hS : StoreAt w' s v' r' room) (hk : Kept s v v' w w') (h1 : ∀ i : Nat, i < 3 → Sorted i (r' i)) (h2 : ∀ i : Nat, i < 3 → (r' i).Perm L') (h3 : ∀ k ∈ L', Nonneg k) : Wrote F s L' room w w' :=
  ⟨fpS s v', ⟨v', r', hS, h1, h2, fun _ => Iff.rfl, h3⟩, upd_mono hk.upd (fun b _ hb => (h.foot b).2 hb), fun b hb => by
    rcases hb with rfl | ⟨i, hi, hb⟩
    · exact .inl ((h.foot b).2 (.inl rfl))
    · rcases hk.fresh i hi b hb with h4 | h4
      · exact .inl ((h.foot b).2 h4)
      · exact .inr h4⟩

theorem sto_add {w : World} {F : Nat → Prop} {s : Nat} {L : List Key} {room : Int} (k : Key) (hL : Laid w) (h : St w F s L room) (hm : L.length ≤ 100000) :
    Calls Tryd.prog 16 #[.pointer (some ⟨s, 0, none⟩), K3 k.a k.b k.c] w fun e w' => e = .returned (.int .i64 (addC room L k)) ∧ Wrote F s (addL room L k) room w w' := by
  obtain ⟨v, r, hS⟩ := h
  have hSt : St w F s L room := ⟨v, r, hS⟩
  have hlen : ∀ i : Nat, i < 3 → (r i).length = L.length := fun i hi => (hS.perm i hi).length_eq
  have hmono : ∀ i : Nat, i < 3 → Rising i (r i) := fun i hi => sorted_rising (hS.sorted i hi)
  have hr0 : Rising (0 : Int) (r 0) := hmono 0 (by omega)
  have hfd : foundB 0 (r 0) k (lb 0 (r 0) k) = decide (k ∈ L) := by
    have := found_iff (t := k) (hS.sorted 0 (by omega))
    simp only [Int.natCast_zero] at this
    erw [this]
    simp only [(hS.perm 0 (by omega)).mem_iff]
  by_cases h1 : k.a < 0 ∨ k.b < 0 ∨ k.c < 0
  · have hc : addC room L k = 2 := by unfold addC; rw [if_pos h1]
    have hl : addL room L k = L := by unfold addL; rw [hc]; rfl
    rw [hc, hl]
    refine (add_neg s k w h1).mono ?_
    rintro e w' ⟨rfl, hE⟩
    exact ⟨rfl, wrote_ext hSt hE⟩
  · have ha : 0 ≤ k.a := by omega
    have hb : 0 ≤ k.b := by omega
    have hc : 0 ≤ k.c := by omega
    by_cases h2 : k ∈ L
    · have e : addC room L k = 5 := by unfold addC; rw [if_neg h1, if_pos h2]
      have hl : addL room L k = L := by unfold addL; rw [e]; rfl
      rw [e, hl]
      refine (add_there s v r room k w hL hS.at_ (by rw [hlen 0 (by omega)]; omega) hr0 ha hb hc (by rw [hfd]; simpa using h2)).mono ?_
      rintro e w' ⟨rfl, hE⟩
      exact ⟨rfl, wrote_ext hSt hE⟩
    · by_cases h3 : room ≤ L.length
      · have e : addC room L k = 6 := by unfold addC; rw [if_neg h1, if_neg h2, if_pos h3]
        have hl : addL room L k = L := by unfold addL; rw [e]; rfl
        rw [e, hl]
        refine (add_full s v r room k w hL hS.at_ (by rw [hlen 0 (by omega)]; omega) hr0 ha hb hc (by rw [hfd]; simpa using h2) (by rw [hlen 0 (by omega)]; exact h3)).mono ?_
        rintro e w' ⟨rfl, hE⟩
        exact ⟨rfl, wrote_ext hSt hE⟩
      · have e : addC room L k = 0 := by unfold addC; rw [if_neg h1, if_neg h2, if_neg h3]
        have hl : addL room L k = L ++ [k] := by unfold addL; rw [e]; rfl
        rw [e, hl]
        refine (add_ok s v r room k w hL hS.at_ (fun i hi => by rw [hlen i hi]; omega) hmono ha hb hc (by rw [hfd]; simpa using h2) (by rw [hlen 0 (by omega)]; omega)).mono ?_
        rintro e w' ⟨rfl, v', hS', hk⟩
        refine ⟨rfl, kept_wrote hS hS' hk (fun i hi => ?_) (fun i hi => ?_) (fun x hx => ?_)⟩
        · unfold insTo
          rw [if_pos hi]
          exact ins_sorted (hS.sorted i hi) (fun hm => h2 ((hS.perm i hi).mem_iff.1 hm))
        · unfold insTo
          rw [if_pos hi]
          refine (ins_perm _ _ _).trans (((hS.perm i hi).cons k).trans ?_)
          exact (List.perm_append_singleton k L).symm
        · rcases List.mem_append.1 hx with hx | hx
          · exact hS.nn x hx
          · rw [List.mem_singleton.1 hx]; exact ⟨ha, hb, hc⟩

theorem sto_remove {w : World} {F : Nat → Prop} {s : Nat} {L : List Key} {room : Int} (k : Key) (hL : Laid w) (h : St w F s L room) (hm : L.length ≤ 100000) :
    Calls Tryd.prog 24 #[.pointer (some ⟨s, 0, none⟩), K3 k.a k.b k.c] w fun e w' => e = .returned (.int .i64 (remC L k)) ∧ Wrote F s (remL L k) room w w' := by
  obtain ⟨v, r, hS⟩ := h
  have hSt : St w F s L room := ⟨v, r, hS⟩
  have hlen : ∀ i : Nat, i < 3 → (r i).length = L.length := fun i hi => (hS.perm i hi).length_eq
  have hmono : ∀ i : Nat, i < 3 → Rising i (r i) := fun i hi => sorted_rising (hS.sorted i hi)
  have hr0 : Rising (0 : Int) (r 0) := hmono 0 (by omega)
  have hfd : foundB 0 (r 0) k (lb 0 (r 0) k) = decide (k ∈ L) := by
    have := found_iff (t := k) (hS.sorted 0 (by omega))
    simp only [Int.natCast_zero] at this
    erw [this]
    simp only [(hS.perm 0 (by omega)).mem_iff]
  by_cases h2 : k ∈ L
  · have e : remC L k = 0 := by unfold remC; rw [if_pos h2]
    rw [e]
    have hmem : ∀ i : Nat, i < 3 → k ∈ r i := fun i hi => (hS.perm i hi).mem_iff.2 h2
    refine (remove_ok s v r room k w hL hS.at_ (fun i hi => by rw [hlen i hi]; omega) hmono (by rw [hfd]; simpa using h2) (fun i hi => lb_lt (hS.sorted i hi) (hmem i hi))).mono ?_
    rintro e w' ⟨rfl, v', hS', hk⟩
    refine ⟨rfl, kept_wrote hS hS' hk (fun i hi => ?_) (fun i hi => ?_) (fun x hx => hS.nn x (List.mem_of_mem_erase hx))⟩
    · unfold delTo
      rw [if_pos hi]
      exact del_sorted (hS.sorted i hi)
    · unfold delTo
      rw [if_pos hi]
      have h1 := del_perm (hS.sorted i hi) (hmem i hi)
      have h3 := (hS.perm i hi).symm.trans h1
      exact (List.Perm.cons_inv ((List.perm_cons_erase h2).symm.trans h3)).symm
  · have e : remC L k = 4 := by unfold remC; rw [if_neg h2]
    have hl : remL L k = L := List.erase_of_not_mem h2
    rw [e, hl]
    refine (remove_none s v r room k w hL hS.at_ (by rw [hlen 0 (by omega)]; omega) hr0 (by rw [hfd]; simpa using h2)).mono ?_
    rintro e w' ⟨rfl, hE⟩
    exact ⟨rfl, wrote_ext hSt hE⟩

theorem sto_has {w : World} {F : Nat → Prop} {s : Nat} {L : List Key} {room : Int} (k : Key) (hL : Laid w) (h : St w F s L room) (hm : L.length ≤ 100000) :
    Calls Tryd.prog 19 #[.pointer (some ⟨s, 0, none⟩), K3 k.a k.b k.c] w fun e w' => e = .returned (.bool (decide (k ∈ L))) ∧ Ext w w' := by
  obtain ⟨v, r, hS⟩ := h
  have hlen : (r 0).length = L.length := (hS.perm 0 (by omega)).length_eq
  have hr0 : Rising (0 : Int) (r 0) := sorted_rising (hS.sorted 0 (by omega))
  refine (has_any s v r room k w hL hS.at_ (by omega) hr0).mono ?_
  rintro e w' ⟨rfl, hE⟩
  refine ⟨?_, hE⟩
  have := found_iff (t := k) (hS.sorted 0 (by omega))
  simp only [Int.natCast_zero] at this
  erw [this]
  simp only [(hS.perm 0 (by omega)).mem_iff]

theorem sto_len {w : World} {F : Nat → Prop} {s : Nat} {L : List Key} {room : Int} (h : St w F s L room) : Calls Tryd.prog 27 #[.pointer (some ⟨s, 0, none⟩)] w fun e w' => e = .returned (.int .i64 L.length) ∧ w = w' := by
  obtain ⟨v, r, hS⟩ := h
  have hlen : (r 0).length = L.length := (hS.perm 0 (by omega)).length_eq
  rw [← hlen]
  exact len_any s v r room w hS.at_

theorem ordP_nat (p : Key) : ∃ i : Nat, i < 3 ∧ ordP p = (i : Int) := by
  unfold ordP
  split
  · exact ⟨1, by omega, rfl⟩
  · split
    · exact ⟨2, by omega, rfl⟩
    · exact ⟨0, by omega, rfl⟩
theorem sto_count {w : World} {F : Nat → Prop} {s : Nat} {L : List Key} {room : Int} (p : Key) (hL : Laid w) (h : St w F s L room) (hm : L.length ≤ 100000) :
    Calls Tryd.prog 21 #[.pointer (some ⟨s, 0, none⟩), K3 p.a p.b p.c] w fun e w' => e = .returned (.int .i64 (scanL p L).length) ∧ Ext w w' := by
  obtain ⟨v, r, hS⟩ := h
  obtain ⟨i, hi, ho⟩ := ordP_nat p
  have hlen : (r i).length = L.length := (hS.perm i hi).length_eq
  have hs := hS.sorted i hi
  rw [← ho] at hs
  rw [← scanned_scanL p (r i) L hs hS.nn (hS.perm i hi)]
  exact count_any s i hi v r room p ho w hL hS.at_ (by omega) (sorted_rising (hS.sorted i hi))

/-- what a scan tells, of a store -/
theorem sto_scan1 {w : World} {F : Nat → Prop} {s : Nat} {L : List Key} {room : Int} (yv : Value) (hyv : YForm yv) (fp : Nat → Prop) (J Jx : List Key → World → Prop) (p : Key) (b1 b2 b3 b4 : Nat)
    (hL : Laid w) (h : St w F s L room) (hm : L.length ≤ 100000) (hA : ScanAt w s (ordP p) p b1 b2 b3 b4)
    (hfS : ∀ b, F b → ¬ fp b) (hfb : ∀ b, boxes b1 b2 b3 b4 b → ¬ fp b) (hf0 : ¬ fp 0) (hf1 : ¬ fp 1)
    (hJ : ∀ pre W1 W2, J pre W1 → Ext W1 W2 → J pre W2)
    (hY : ∀ pre x W1, J pre W1 → pre ++ [x] <+: scanL p L → Told yv x W1 (ToldPost fp J Jx pre x W1)) (h0 : J [] w) :
    Calls Tryd.prog 32 #[yv, .pointer (some ⟨b1, 0, none⟩), .pointer (some ⟨b2, 0, none⟩), .pointer (some ⟨b3, 0, none⟩), .pointer (some ⟨b4, 0, none⟩)] w fun e W' => (∃ v, e = .returned v) ∧
      (J (scanL p L) W' ∨ ∃ pre, pre <+: scanL p L ∧ Jx pre W') := by
  obtain ⟨v, r, hS⟩ := h
  obtain ⟨i, hi, ho⟩ := ordP_nat p
  have hlen : (r i).length = L.length := (hS.perm i hi).length_eq
  have hs := hS.sorted i hi
  rw [← ho] at hs
  rw [← scanned_scanL p (r i) L hs hS.nn (hS.perm i hi)] at hY ⊢
  exact scan1_any yv hyv fp J Jx s i (ordP p) ho hi v r room p b1 b2 b3 b4 w hL hS.at_ (by omega) (sorted_rising (hS.sorted i hi)) hA (fun b hb => hfS b ((hS.foot b).2 hb)) hfb hf0 hf1 hJ hY h0
end Go.Proofs.YtfaegjlolhpofaaDoor
