/- What a scan tells. -/
import Derived.RangeFuncNested
import Derived.RangeFuncBound
import Derived.RangeFuncCalls
import Derived.RangeFuncLeaves
import Derived.Shelf.Abstract
import Derived.Shelf.RegionOpen
import Derived.WalkKit
import Derived.OwnWalkIn
import Derived.TacticsInMore
import Derived.LoopNIn
import Derived.LoopIn
import Derived.Test.YtfaegjlolhpofaaDoorSc
namespace Go.Proofs.YtfaegjlolhpofaaDoor
open Go.RowKit Go.Sort Go.Shelf
set_option maxHeartbeats 800000
attribute [local go_sem] Oper.semAt_some

/-- what a scan may be handed -/
def YForm (yv : Value) : Prop := (∃ f lb, yv = .func (.func f) #[] lb ∧ (∀ args w, (callFunc f args).run Tryd.prog w = .ok (.enter f args) w)) ∨ ∃ l, yv = .func (.yield l) #[] #[]
/-- a call of it -/
def Told (yv : Value) (x : Key) (W : World) (R : Ending → World → Prop) : Prop :=
  (∀ f lb, yv = .func (.func f) #[] lb → Calls Tryd.prog f (#[K3 x.a x.b x.c] ++ lb) W R) ∧
  (∀ l, yv = .func (.yield l) #[] #[] → YieldAt Fence.wide 0 Tryd.prog l #[K3 x.a x.b x.c] W R)

theorem yield_wide {P : Program} {m m' l : Nat} {args : Array Value} {W : World} {R : Ending → World → Prop} (h : YieldAt Fence.wide m P l args W R) : YieldAt Fence.wide m' P l args W R := by
  obtain ⟨fn, t, asg, bo, hy, hF, hR⟩ := h
  exact ⟨fn, t, asg, bo, hy, hF, fun c cs _ => hR c cs (room_wide _)⟩

def ToldPost (fp : Nat → Prop) (J Jx : List Key → World → Prop) (pre : List Key) (x : Key) (W1 : World) (e : Ending) (W' : World) : Prop :=
  (e = .returned (.bool true) ∧ J (pre ++ [x]) W' ∧ Upd fp W1 W') ∨ (e = .returned (.bool false) ∧ Jx (pre ++ [x]) W')

/-- those that a scan comes to -/
def scanned (o : Int) (p : Key) (ks : List Key) : List Key := (ks.drop (lb o ks (posKey p))).takeWhile (fitsB p)

theorem takeWhile_split {α : Type} (f : α → Bool) (d : α) : ∀ (j : Nat) (l : List α), (∀ k, k < j → f (l.getD k d) = true) → j ≤ l.length → l.takeWhile f = l.take j ++ (l.drop j).takeWhile f
  | 0, l, _, _ => by simp
  | j + 1, [], _, h => by simp at h
  | j + 1, x :: l, h, hj => by
    have hx : f x = true := by simpa using h 0 (by omega)
    rw [List.takeWhile_cons, if_pos hx, List.take_succ_cons, List.drop_succ_cons, takeWhile_split f d j l (fun k hk => by simpa using h (k + 1) (by omega)) (by simpa using hj)]
    rfl
theorem drop_cons_getD {α : Type} (d : α) : ∀ (j : Nat) (l : List α), j < l.length → l.drop j = l.getD j d :: l.drop (j + 1)
  | _, [], h => by simp at h
  | 0, x :: l, _ => by simp
  | j + 1, x :: l, h => by
    rw [List.drop_succ_cons, drop_cons_getD d j l (by simpa using h)]
    simp
theorem take_succ_getD {α : Type} (d : α) (j : Nat) (l : List α) (h : j < l.length) : l.take (j + 1) = l.take j ++ [l.getD j d] := by
  rw [List.take_add_one, List.getD_eq_getElem?_getD, List.getElem?_eq_getElem h]; simp
theorem drop_getD (l : List Key) (a j : Nat) : (l.drop a).getD j ⟨0, 0, 0⟩ = kat l (a + j) := by
  unfold kat
  rw [List.getD_eq_getElem?_getD, List.getD_eq_getElem?_getD, List.getElem?_drop]

theorem scan1_row (yv : Value) (hyv : YForm yv) (fp : Nat → Prop) (J Jx : List Key → World → Prop) (s i : Nat) (hi : i < 3) (v : Nat → Value) (r : Nat → List Key) (room : Int) (p : Key) (b1 b2 b3 b4 : Nat) (w : World)
    (hL : Laid w) (hS : StoreAt w s v r room) (hm : (r i).length ≤ 1000000) (hmono : Rising i (r i)) (hA : ScanAt w s i p b1 b2 b3 b4)
    (hfS : ∀ b, fpS s v b → ¬ fp b) (hfb : ∀ b, boxes b1 b2 b3 b4 b → ¬ fp b) (hf0 : ¬ fp 0) (hf1 : ¬ fp 1)
    (hJ : ∀ pre W1 W2, J pre W1 → Ext W1 W2 → J pre W2)
    (hY : ∀ pre x W1, J pre W1 → pre ++ [x] <+: scanned i p (r i) → Told yv x W1 (ToldPost fp J Jx pre x W1)) (h0 : J [] w)
    (g cap : Nat) (hv : v i = .slice (some ⟨g, 0, none⟩) (r i).length cap) :
    Calls Tryd.prog 32 #[yv, .pointer (some ⟨b1, 0, none⟩), .pointer (some ⟨b2, 0, none⟩), .pointer (some ⟨b3, 0, none⟩), .pointer (some ⟨b4, 0, none⟩)] w fun e W' => (∃ v, e = .returned v) ∧
      (J (scanned i p (r i)) W' ∨ ∃ pre, pre <+: scanned i p (r i) ∧ Jx pre W') := by
  have HL := Lib.hid hL
  have HS := Lib.hid hS
  have HM := Lib.hid hmono
  have HLen := Lib.hid hm
  have HA := Lib.hid hA
  have HV := Lib.hid hv
  have H0 := Lib.hid h0
  have HJ := Lib.hid hJ
  have HY := Lib.hid hY
  have HfS := Lib.hid hfS
  have Hfb := Lib.hid hfb
  clear hL hS hmono hm hA hv h0 hJ hY hfS hfb
  have hii : (i : Int) < 3 := by omega
  have hi0 : (0 : Int) ≤ (i : Int) := by omega
  have q1 : w.cell? ⟨b1, 0, none⟩ = some (.pointer (some ⟨s, 0, none⟩)) := block_cell HA.out.h1 0
  have q2 : w.cell? ⟨b2, 0, none⟩ = some (.int .i64 i) := block_cell HA.out.h2 0
  have q3a : w.cell? ⟨b3, 0, none⟩ = some (.int .i64 (posKey p).a) := block_cell HA.out.h3 0
  have q3b : w.cell? ⟨b3, 1, none⟩ = some (.int .i64 (posKey p).b) := block_cell HA.out.h3 1
  have q3c : w.cell? ⟨b3, 2, none⟩ = some (.int .i64 (posKey p).c) := block_cell HA.out.h3 2
  have l1 := block_lt HA.out.h1
  have l2 := block_lt HA.out.h2
  have l3 := block_lt HA.out.h3
  go_enter Tryd.func32, Tryd.ntmps32
  go_wp2_with (go_at_call 30; refine (find_any s i i rfl v r room (posKey p) _ HL.out HS.out hi HLen.out HM.out).mono ?_; rintro e w1 ⟨rfl, hE⟩; have HE := Lib.hid hE; clear hE)
  have HS1 := Lib.hid (store_ext HS.out HE.out)
  have HA1 := Lib.hid (scanAt_upd (fp := fun _ => False) HA.out (upd_of_ext HE.out) (fun _ _ h => h))
  clear q1 q2 q3a q3b q3c
  have q1 : w1.cell? ⟨b1, 0, none⟩ = some (.pointer (some ⟨s, 0, none⟩)) := block_cell HA1.out.h1 0
  have q2 : w1.cell? ⟨b2, 0, none⟩ = some (.int .i64 i) := block_cell HA1.out.h2 0
  have s0 := store_cell HS1.out i hi
  rw [HV.out] at s0
  have ls := World.block_lt_of_cell? _ _ s0
  have l1 := block_lt HA1.out.h1
  have l2 := block_lt HA1.out.h2
  have hat := lb_le i (r i) (posKey p)
  have hgc := cell_grown
  refine wp_region_free 10 [0, 1, 2, 3, 4, 5, 6, 7, 8, 9] [] (by kernel_rfl) (by kernel_rfl) ?_
  repeat (refine wpLoose_step rfl (fun K hK => ?_); (try simp only [Oper.quietAt, Oper.quietUpon]); go_simp; (refine hK _ ?_; clear hK K))
  refine wpLoose_nil (wpFresh_nil (fun w3 hE3 _ => ?_))
  have HE3 := Lib.hid hE3
  clear hE3
  simp only [List.drop_succ_cons, List.drop_zero]
  refine wpList_nil ?_
  obtain ⟨ks, hks⟩ : ∃ ks, r i = ks := ⟨_, rfl⟩
  have HKS := Lib.hid hks
  obtain ⟨at_, hat_⟩ : ∃ a, lb (↑i) (r i) (posKey p) = a := ⟨_, rfl⟩
  have HAT := Lib.hid hat_
  rw [hat_] at hat ⊢
  rw [hks] at hat ⊢
  clear hat_ hks
  have hgl := (by have := HS.out.row i hi; rw [HV.out, HKS.out] at this; exact this : rowOf w (.slice (some ⟨g, 0, none⟩) ks.length cap) ks)
  have hcap : ks.length ≤ cap := by
    rcases row_cases hgl with ⟨h, _⟩ | ⟨_, _, _, h, _, h2, _⟩
    · cases h
    · simp only [Value.slice.injEq] at h; rw [h.2.2]; exact h2
  have HROW := Lib.hid (row_keysIn hgl)
  have hgw := row_block hgl
  clear hgl
  obtain ⟨ad, had⟩ : ∃ ad, (if cap = at_ then some (⟨g, 0, none⟩ : Addr) else some ⟨g, at_ * 3, none⟩) = ad := ⟨_, rfl⟩
  rw [had]
  have hbef : at_ < ks.length → ad = some ⟨g, at_ * 3, none⟩ := fun h => by rw [← had, if_neg (by omega)]
  clear had
  obtain ⟨m, hm⟩ : ∃ m, ks.length - at_ = m := ⟨_, rfl⟩
  rw [hm]
  have HM3 := Lib.hid hm
  clear hm
  have HU3 := Lib.hid (show Upd fp w w3 from upd_of_ext (ext_trans HE.out HE3.out))
  have HJ3 := Lib.hid (HJ.out _ _ _ H0.out (ext_trans HE.out HE3.out))
  have hgf : ¬ fp g := HfS.out g (.inr ⟨i, hi, by rw [HV.out]; rfl⟩)
  have HBEF := Lib.hid hbef
  have HAT2 := Lib.hid hat
  have HCAP := Lib.hid hcap
  have HGF := Lib.hid hgf
  have HF0 := Lib.hid hf0
  have HF1 := Lib.hid hf1
  have HD : Hid (scanned (↑i) p ks = (ks.drop at_).takeWhile (fitsB p)) := by
    have := HAT.out
    unfold scanned
    rw [HKS.out] at this
    exact Lib.hid (by rw [this])
  have hdl : (ks.drop at_).length = m := by rw [List.length_drop]; exact HM3.out
  have HDL := Lib.hid hdl
  have HmL := HLen.out
  rw [HKS.out] at HmL
  have hm6 : m ≤ 1000000 := by have := HM3.out; omega
  clear q1 q2 s0 ls l1 l2 l3 hbef hat hcap hgf hf0 hf1 hdl HmL
  go_wp2
  go_loopw [26] (fun x wr => ∃ j : Nat, j ≤ m ∧ x = .int .i64 j ∧ (∀ k, k < j → fitsB p ((ks.drop at_).getD k ⟨0, 0, 0⟩) = true) ∧ J ((ks.drop at_).take j) wr ∧ Upd fp w wr) (fun x _ => m - (intOf x).toNat)
  case atStart => exact ⟨0, by omega, rfl, fun k h => by omega, HJ3.out, HU3.out⟩
  case round =>
    obtain ⟨j, hj, rfl, hfit, hJr, hUr⟩ := hrel
    have HFIT := Lib.hid hfit
    have HJr := Lib.hid hJr
    have HUr := Lib.hid hUr
    clear hfit hJr hUr
    have htw := takeWhile_split (fitsB p) ⟨0, 0, 0⟩ j (ks.drop at_) HFIT.out (by rw [HDL.out]; exact hj)
    have HTW := Lib.hid htw
    clear htw
    have HAr := Lib.hid (scanAt_upd HA.out HUr.out Hfb.out)
    by_cases hlt : j < m
    · have hji : (j : Int) < (m : Int) := by omega
      have hj0 : (0 : Int) ≤ (j : Int) := by omega
      obtain ⟨x, hx⟩ : ∃ x, kat ks (at_ + j) = x := ⟨_, rfl⟩
      have hal : at_ + j < ks.length := by have := HM3.out; omega
      obtain ⟨k0, k1, k2⟩ := HROW.out (at_ + j) hal
      have q0 := (upd_cell HUr.out hgw HGF.out _).trans k0
      have q1 := (upd_cell HUr.out hgw HGF.out _).trans k1
      have q2 := (upd_cell HUr.out hgw HGF.out _).trans k2
      rw [hx, Nat.add_mul] at q0 q1 q2
      have HX := Lib.hid hx
      clear hx k0 k1 k2
      have p0 : wr.cell? ⟨b4, 0, none⟩ = some (.int .i64 p.a) := block_cell HAr.out.h4 0
      have p1 : wr.cell? ⟨b4, 1, none⟩ = some (.int .i64 p.b) := block_cell HAr.out.h4 1
      have p2 : wr.cell? ⟨b4, 2, none⟩ = some (.int .i64 p.c) := block_cell HAr.out.h4 2
      have l4 := block_lt HAr.out.h4
      have lg : g < wr.heap.size := Nat.lt_of_lt_of_le hgw HUr.out.size
      rw [HBEF.out (by omega)]
      by_cases hf : fitsB p x = true
      · have HF := Lib.hid hf
        clear hf
        have hpre : (ks.drop at_).take j ++ [x] <+: scanned (↑i) p (r i) := by
          have hd0 : (ks.drop at_).drop j = x :: (ks.drop at_).drop (j + 1) := by
            rw [drop_cons_getD ⟨0, 0, 0⟩ j _ (by rw [HDL.out]; exact hlt), drop_getD, HX.out]
          rw [HKS.out, HD.out, HTW.out, hd0, List.takeWhile_cons, if_pos HF.out]
          exact ⟨((ks.drop at_).drop (j + 1)).takeWhile (fitsB p), by simp⟩
        have htake : (ks.drop at_).take (j + 1) = (ks.drop at_).take j ++ [x] := by
          rw [take_succ_getD ⟨0, 0, 0⟩ j _ (by rw [HDL.out]; exact hlt), drop_getD, HX.out]
        have hfit' : ∀ k, k < j + 1 → fitsB p ((ks.drop at_).getD k ⟨0, 0, 0⟩) = true := fun k hk => by
          by_cases h : k < j
          · exact HFIT.out k h
          · obtain rfl : k = j := by omega
            rw [drop_getD, HX.out]; exact HF.out
        rcases hyv with ⟨f, lb', rfl, hen⟩ | ⟨l, rfl⟩
        · refine (wpIn_wide (n := 3)).1 ?_
          gi_wp2_with (refine ⟨trivial, ?_⟩; gi_at_call 14; refine (callsIn_wide.2 (fits_any p x _)).mono ?_; rintro e w4 ⟨rfl, hE4⟩; have HE4 := Lib.hid hE4; clear hE4; rw [HF.out]; have HT := Lib.hid ((HY.out _ x w4 (HJ.out _ _ _ HJr.out (ext_trans (ext_alloc (ext_refl _) _) HE4.out)) hpre).1 f lb' rfl); have c0 : w4.cell? ⟨wr.heap.size, 0, none⟩ = some (.int .i64 x.a) := (ext_cell HE4.out _ _ (by simp)).trans (block_cell (heap_alloc_new wr _) 0); have c1 : w4.cell? ⟨wr.heap.size, 1, none⟩ = some (.int .i64 x.b) := (ext_cell HE4.out _ _ (by simp)).trans (block_cell (heap_alloc_new wr _) 1); have c2 : w4.cell? ⟨wr.heap.size, 2, none⟩ = some (.int .i64 x.c) := (ext_cell HE4.out _ _ (by simp)).trans (block_cell (heap_alloc_new wr _) 2))
          refine ⟨trivial, (callsIn_wide.2 HT.out).mono ?_⟩
          rintro e w5 (⟨rfl, hJ5, hU5⟩ | ⟨rfl, hJx⟩)
          · have HJ5 := Lib.hid hJ5
            have HU5 := Lib.hid hU5
            clear hJ5 hU5
            gi_wp2
            go_roundw
            case rel => exact ⟨j + 1, by omega, by go_num, hfit', by rw [htake]; exact HJ5.out, upd_trans (upd_trans HUr.out (upd_of_ext (fp := fp) (ext_trans (ext_alloc (ext_refl _) _) HE4.out)) (fun _ _ h => h)) HU5.out (fun _ _ h => h)⟩
            case measure => simp [intOf]; omega
          · have HJX := Lib.hid hJx
            clear hJx
            gi_wp2
            refine bodyPost_ret (results_none rfl _ _ _) rfl ?_
            exact ⟨⟨_, rfl⟩, .inr ⟨_, hpre, HJX.out⟩⟩
        · refine (wpIn_wide (n := 3)).1 ?_
          gi_wp2_with (refine ⟨trivial, ?_⟩; gi_at_call 14; refine (callsIn_wide.2 (fits_any p x _)).mono ?_; rintro e w4 ⟨rfl, hE4⟩; have HE4 := Lib.hid hE4; clear hE4; rw [HF.out]; obtain ⟨fn', tm', as', bo', hy, hR⟩ := yield_wide (m' := 2) ((HY.out _ x w4 (HJ.out _ _ _ HJr.out (ext_trans (ext_alloc (ext_refl _) _) HE4.out)) hpre).2 l rfl); have HR := Lib.hid hR; clear hR; have c0 : w4.cell? ⟨wr.heap.size, 0, none⟩ = some (.int .i64 x.a) := (ext_cell HE4.out _ _ (by simp)).trans (block_cell (heap_alloc_new wr _) 0); have c1 : w4.cell? ⟨wr.heap.size, 1, none⟩ = some (.int .i64 x.b) := (ext_cell HE4.out _ _ (by simp)).trans (block_cell (heap_alloc_new wr _) 1); have c2 : w4.cell? ⟨wr.heap.size, 2, none⟩ = some (.int .i64 x.c) := (ext_cell HE4.out _ _ (by simp)).trans (block_cell (heap_alloc_new wr _) 2))
          refine HR.out.mono ?_
          rintro e w5 (⟨rfl, hJ5, hU5⟩ | ⟨rfl, hJx⟩)
          · have HJ5 := Lib.hid hJ5
            have HU5 := Lib.hid hU5
            clear hJ5 hU5
            gi_wp2
            go_roundw
            case rel => exact ⟨j + 1, by omega, by go_num, hfit', by rw [htake]; exact HJ5.out, upd_trans (upd_trans HUr.out (upd_of_ext (fp := fp) (ext_trans (ext_alloc (ext_refl _) _) HE4.out)) (fun _ _ h => h)) HU5.out (fun _ _ h => h)⟩
            case measure => simp [intOf]; omega
          · have HJX := Lib.hid hJx
            clear hJx
            gi_wp2
            refine bodyPost_ret (results_none rfl _ _ _) rfl ?_
            exact ⟨⟨_, rfl⟩, .inr ⟨_, hpre, HJX.out⟩⟩
      · have hf' : fitsB p x = false := by simpa using hf
        have HF' := Lib.hid hf'
        clear hf hf'
        go_wp2_with (go_at_call 14; refine (fits_any p x _).mono ?_; rintro e w4 ⟨rfl, hE4⟩; have HE4 := Lib.hid hE4; clear hE4; rw [HF'.out])
        have hd0 : (ks.drop at_).drop j = x :: (ks.drop at_).drop (j + 1) := by
          rw [drop_cons_getD ⟨0, 0, 0⟩ j _ (by rw [HDL.out]; exact hlt), drop_getD, HX.out]
        have hend : scanned (↑i) p (r i) = (ks.drop at_).take j := by
          rw [HKS.out, HD.out, HTW.out, hd0, List.takeWhile_cons, if_neg (by rw [HF'.out]; decide), List.append_nil]
        refine bodyPost_ret (results_none rfl _ _ _) rfl ?_
        exact ⟨⟨_, rfl⟩, .inl (by rw [hend]; exact HJ.out _ _ _ HJr.out (ext_trans (ext_alloc (ext_refl _) _) HE4.out))⟩
    · obtain rfl : j = m := by omega
      have hend : scanned (↑i) p (r i) = (ks.drop at_).take j := by
        have hnil : (ks.drop at_).drop j = [] := List.drop_eq_nil_of_le (by rw [HDL.out]; exact Nat.le_refl _)
        rw [HKS.out, HD.out, HTW.out, hnil, List.takeWhile_nil, List.append_nil]
      go_wp2
      go_end0
      exact ⟨⟨_, rfl⟩, .inl (by rw [hend]; exact HJr.out)⟩
end Go.Proofs.YtfaegjlolhpofaaDoor
