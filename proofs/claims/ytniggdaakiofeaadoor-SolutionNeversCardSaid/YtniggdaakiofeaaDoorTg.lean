/- LeftJoin, walked. -/
import Derived.Test.YtniggdaakiofeaaDoorTf
import Derived.Test.YtniggdaakiofeaaDoorTc
namespace Go.Proofs.YtniggdaakiofeaaDoor
open Go Go.RowKit Go.Sort
set_option maxHeartbeats 4000000

structure JL (ok : Nat → Prop) (H b0 b1 b2 p bx : Nat) (ca cb : Array Value) (xv : Value) (VV : List ByteArray) (T : List (List Int)) (w wr : World) : Prop where
  tab : TabK ok H wr p VV T
  a : wr.heap[b0]? = some (.cells ca 31 (0, 0))
  b : wr.heap[b1]? = some (.cells cb 31 (0, 0))
  r : wr.heap[b2]? = some (.cells #[.slice none 0 0, .slice none 0 0] 31 (0, 0))
  x : wr.heap[bx]? = some (.cells #[xv] 41 (0, 0))
  size : H ≤ wr.heap.size
  ext : Ext w wr
theorem JL.on {ok : Nat → Prop} {H b0 b1 b2 p bx : Nat} {ca cb : Array Value} {xv : Value} {VV : List ByteArray} {T : List (List Int)} {w wr w' : World} (h : JL ok H b0 b1 b2 p bx ca cb xv VV T w wr) (hE : Ext wr w') : JL ok H b0 b1 b2 p bx ca cb xv VV T w w' :=
  ⟨tabK_ext h.tab hE, (ext_block hE (block_lt h.a)).trans h.a, (ext_block hE (block_lt h.b)).trans h.b, (ext_block hE (block_lt h.r)).trans h.r, (ext_block hE (block_lt h.x)).trans h.x, Nat.le_trans h.size (ext_size hE), ext_trans h.ext hE⟩
theorem JL.more {ok : Nat → Prop} {H b0 b1 b2 p bx : Nat} {ca cb : Array Value} {xv : Value} {VV : List ByteArray} {T T' : List (List Int)} {w wr w' : World} (h : JL ok H b0 b1 b2 p bx ca cb xv VV T w wr) (hT : TabK ok H w' p VV T') (hU : Upd (fun b => ok b ∨ b = p) wr w') (hok : ∀ b, ok b ∨ b = p → H ≤ b ∧ b ≠ bx) (hb : b0 < H ∧ b1 < H ∧ b2 < H ∧ w.heap.size ≤ H) : JL ok H b0 b1 b2 p bx ca cb xv VV T' w w' :=
  ⟨hT, (hU.block b0 (block_lt h.a) (fun e => by have := (hok _ e).1; omega)).trans h.a, (hU.block b1 (block_lt h.b) (fun e => by have := (hok _ e).1; omega)).trans h.b, (hU.block b2 (block_lt h.r) (fun e => by have := (hok _ e).1; omega)).trans h.r, (hU.block bx (block_lt h.x) (fun e => (hok _ e).2 rfl)).trans h.x, Nat.le_trans h.size hU.size, ext_upd h.ext hU (fun b hb' => by have := (hok _ hb').1; omega)⟩
theorem JL.ji {ok : Nat → Prop} {H b0 b1 b2 p bx : Nat} {ca cb : Array Value} {xv : Value} {VV : List ByteArray} {T : List (List Int)} {w wr : World} (h : JL ok H b0 b1 b2 p bx ca cb xv VV T w wr) (hok : ∀ b, ok b → H ≤ b) : JI H b0 b1 b2 p ca cb VV T w wr := by
  obtain ⟨vv, rv, h1, h2⟩ := h.tab
  exact ⟨⟨vv, rv, h1, ownK_own h2 hok⟩, h.a, h.b, h.r, h.size, h.ext⟩

set_option maxRecDepth 100000 in
theorem leftjoin_any (g : Nat) (lb : Array Value) (eg : ∀ args w, (callFunc g args).run Tryd.prog w = .ok (.enter g args) w) (ok : List Int → Bool) (avv arv bvv brv : Value) (U V : List ByteArray) (R S : List (List Int)) (w : World) (ha : TabV w (.agg #[avv, arv]) U R) (hb : TabV w (.agg #[bvv, brv]) V S) (hU : RiseS U) (hV : RiseS V) (hu : U.length ≤ 100000) (hm : V.length ≤ 100000)
    (hR : ∀ x ∈ R, x.length = U.length) (hS : ∀ y ∈ S, y.length = V.length) (hr : R.length ≤ 100000) (hs : S.length ≤ 100000) (hrs : R.length * (S.length + 1) ≤ 900000) (Pr : List Int → Prop) (hP : ∀ x ∈ R, ∀ y ∈ S, Pr (joinR U V x y)) (hcb : CbOk g lb (setS (U ++ V)) ok Pr w) :
    Calls Tryd.prog 23 #[.agg #[avv, arv], .agg #[bvv, brv], .func (.func g) #[] lb] w fun e w' => ∃ vv rv, e = .returned (.agg #[vv, rv]) ∧ Own w.heap.size w' vv rv (setS (U ++ V)) (leftN ok U V R S) ∧ Ext w w' := by
  obtain ⟨a1, a2⟩ := tabV_parts ha
  obtain ⟨a3, a4⟩ := tabV_parts hb
  obtain ⟨A1, c1, rfl⟩ := rdS_form a1
  obtain ⟨A2, c2, rfl⟩ := rdW_form a2
  obtain ⟨A3, c3, rfl⟩ := rdS_form a3
  obtain ⟨A4, c4, rfl⟩ := rdW_form a4
  have HA := Lib.hid ha
  have HB := Lib.hid hb
  have HA1 := Lib.hid a1
  have HA2 := Lib.hid a2
  have HA3 := Lib.hid a3
  have HA4 := Lib.hid a4
  have HR := Lib.hid hR
  have HS := Lib.hid hS
  have HUU := Lib.hid hU
  have HVV := Lib.hid hV
  have HRS := Lib.hid hrs
  have HPR := Lib.hid hP
  clear ha hb a1 a2 a3 a4 hR hS hU hV hrs hP
  obtain ⟨h0, h1, h2, h3⟩ := heap_four w (.cells #[.slice A1 U.length c1, .slice A2 R.length c2] 31) (.cells #[.slice A3 V.length c3, .slice A4 S.length c4] 31) (.cells #[.slice none 0 0, .slice none 0 0] 31) (.cells #[.slice A1 U.length c1, .slice A3 V.length c3] 28)
  have HE0 := Lib.hid (ext_alloc (ext_alloc (ext_alloc (ext_alloc (ext_refl w) (.cells #[.slice A1 U.length c1, .slice A2 R.length c2] 31)) (.cells #[.slice A3 V.length c3, .slice A4 S.length c4] 31)) (.cells #[.slice none 0 0, .slice none 0 0] 31)) (.cells #[.slice A1 U.length c1, .slice A3 V.length c3] 28))
  have HH0 := Lib.hid h0
  have HH1 := Lib.hid h1
  have HH2 := Lib.hid h2
  have HH3 := Lib.hid h3
  clear h0 h1 h2 h3
  obtain ⟨J, hJ⟩ : ∃ J, J = U ++ V := ⟨_, rfl⟩
  rw [← hJ] at hcb
  have hjl : J.length ≤ 200000 := by rw [hJ, List.length_append]; omega
  have HJE := Lib.hid hJ
  have HCB := Lib.hid hcb
  clear hJ hcb
  go_enter Tryd.func23, Tryd.ntmps23
  go_wp2_with (first
    | (go_at_call 43; refine (concat_any (w.heap.size + 3) _ _ U V J _ HJE.out HH3.out (rdS_ext HA1.out HE0.out) (rdS_ext HA3.out HE0.out) hu hm).mono ?_; rintro e w1 ⟨A5, c5, rfl, hr1, hE1⟩; have HR1 := Lib.hid hr1; have HE1 := Lib.hid hE1; clear hr1 hE1)
    | (go_at_call 42; refine (vars_any _ J w1 (rdS_row HR1.out.1) (by omega)).mono ?_; rintro e w2 ⟨v2, rfl, hr2, hE2⟩; obtain ⟨A6, c6, rfl⟩ := rowE_form hr2.1; have HR2 := Lib.hid hr2; have HE2 := Lib.hid hE2; have q1 : w2.cell? ⟨w.heap.size, 1, none⟩ = some (.slice A2 R.length c2) := (ext_cell (ext_trans HE1.out hE2) _ _ (block_lt HH0.out)).trans (block_cell HH0.out 1); have l0 := ext_lt (ext_trans HE1.out hE2) (block_lt HH0.out); clear hr2 hE2))
  obtain ⟨H, hH⟩ : ∃ H, H = w.heap.size + 4 := ⟨_, rfl⟩
  obtain ⟨b0, hb0⟩ : ∃ b0, b0 = w.heap.size := ⟨_, rfl⟩
  obtain ⟨b1, hb1⟩ : ∃ b1, b1 = w.heap.size + 1 := ⟨_, rfl⟩
  obtain ⟨b2, hb2⟩ : ∃ b2, b2 = w.heap.size + 1 + 1 := ⟨_, rfl⟩
  obtain ⟨p, hp⟩ : ∃ p, p = w2.heap.size := ⟨_, rfl⟩
  obtain ⟨W2, hW2⟩ : ∃ W2, W2 = w2.alloc (.cells #[.slice A6 (setS J).length c6, .slice none 0 0] 31) := ⟨_, rfl⟩
  have hs1 := ext_size HE1.out
  have hs2 := ext_size HE2.out
  simp only [World.size_alloc] at hs1
  have hE12 := ext_trans HE1.out HE2.out
  have hE2W : Ext w2 W2 := by rw [hW2]; exact ext_alloc (ext_refl _) _
  have hE3 := ext_trans hE12 hE2W
  have hT : TabB H W2 p (setS J) [] := ⟨_, _, by rw [hW2, hp]; exact heap_alloc_new w2 _, rowF_ext _ _ _ hE2W (rowF_low HR2.out (by omega)), [], rowF_nil _ _, rfl, fun i s x hs => by simp at hs⟩
  have HJ := Lib.hid (show JI H b0 b1 b2 p #[.slice A1 U.length c1, .slice A2 R.length c2] #[.slice A3 V.length c3, .slice A4 S.length c4] (setS J) [] w W2 from ⟨hT, by rw [hb0]; exact (ext_block hE3 (block_lt HH0.out)).trans HH0.out, by rw [hb1]; exact (ext_block hE3 (block_lt HH1.out)).trans HH1.out, by rw [hb2]; exact (ext_block hE3 (block_lt HH2.out)).trans HH2.out, by have := ext_size hE2W; omega, ext_trans HE0.out hE3⟩)
  have HBD := Lib.hid (show b0 < H ∧ b1 < H ∧ b2 < H ∧ w.heap.size ≤ H by omega)
  have HB2 := Lib.hid (show w.heap.size ≤ b2 by omega)
  have HPH := Lib.hid (show H ≤ p ∧ p < W2.heap.size from ⟨by omega, by rw [hW2, hp]; simp⟩)
  rw [← hW2, ← hp, ← hb2, ← hb1, ← hb0]
  clear q1 l0 hT hE3 hE2W hE12 hs1 hs2 hW2 hp hb0 hb1 hb2 hH HR1 HR2 HE0 HE1 HE2 HH0 HH1 HH2 HH3
  have hsl := setS_length J
  go_loopw [25] (fun x wr => ∃ j : Nat, j ≤ R.length ∧ x = .int .i64 j ∧ JI H b0 b1 b2 p #[.slice A1 U.length c1, .slice A2 R.length c2] #[.slice A3 V.length c3, .slice A4 S.length c4] (setS J) (leftN ok U V (R.take j) S) w wr) (fun x _ => R.length - (intOf x).toNat)
  case atStart => exact ⟨0, Nat.zero_le _, rfl, HJ.out⟩
  case round =>
    rename World => wo
    obtain ⟨j, hj, rfl, hJ⟩ := hrel
    have HJ2 := Lib.hid hJ
    clear hJ HJ
    by_cases hlt : j < R.length
    · have hji : (j : Int) < (R.length : Int) := by omega
      have hj0 : (0 : Int) ≤ (j : Int) := by omega
      obtain ⟨x, hx⟩ : ∃ x, R[j]? = some x := ⟨_, List.getElem?_eq_getElem hlt⟩
      have HX := Lib.hid hx
      have HXL := Lib.hid (HR.out x (List.mem_of_getElem? hx))
      obtain ⟨b, o, X, d, rfl, hb, hc, hri⟩ := rdW_at HA2.out hx
      have HRI := Lib.hid hri
      have hc := (ext_cell HJ2.out.ext _ _ hb).trans hc
      have hb := ext_lt HJ2.out.ext hb
      obtain ⟨T0, hT0⟩ : ∃ T0, T0 = leftN ok U V (R.take j) S := ⟨_, rfl⟩
      rw [← hT0] at HJ2
      have HT0 := Lib.hid hT0
      have hmid := leftN_mid ok U V R S x hlt (Nat.zero_le S.length)
      have hT0l : T0.length ≤ 900000 := by
        rw [hT0]
        have h1 := leftN_len ok U V (R.take j) S
        have h2 : (R.take j).length * (S.length + 1) ≤ R.length * (S.length + 1) := Nat.mul_le_mul_right _ (by rw [List.length_take]; omega)
        have := HRS.out
        omega
      obtain ⟨vv0, rv0, t1, t2⟩ := HJ2.out.tab
      obtain ⟨A9, c9, hrv⟩ := rdW_form (own_rdW t2)
      subst hrv
      have q9 : wo.cell? ⟨p, 1, none⟩ = some (.slice A9 T0.length c9) := block_cell t1 1
      have l9 := block_lt t1
      have r1 : wo.cell? ⟨b1, 1, none⟩ = some (.slice A4 S.length c4) := block_cell HJ2.out.b 1
      have l1 := block_lt HJ2.out.b
      obtain ⟨bx, hbx⟩ : ∃ bx, bx = wo.heap.size := ⟨_, rfl⟩
      obtain ⟨w3, hw3⟩ : ∃ w3, w3 = wo.alloc (.cells #[.slice X x.length d] 41) := ⟨_, rfl⟩
      have hE3 : Ext wo w3 := by rw [hw3]; exact ext_alloc (ext_refl _) _
      have hJL : JL (fun q => H ≤ q ∧ q ≠ bx) H b0 b1 b2 p bx #[.slice A1 U.length c1, .slice (some ⟨b, o, none⟩) R.length c2] #[.slice A3 V.length c3, .slice A4 S.length c4] (.slice X x.length d) (setS J) (T0 ++ leftJ ok U V (S.take 0) x) w w3 := by
        obtain ⟨k1, sl, k2, k3, k4⟩ := t2
        have hown : OwnK (fun q => H ≤ q ∧ q ≠ bx) H wo vv0 (.slice A9 T0.length c9) (setS J) T0 := ⟨k1, sl, ⟨k2.1, fun q hq => ⟨k2.2 q hq, fun e => by have := (rowE_block k2.1 hq).1; omega⟩⟩, k3, k4⟩
        have e : T0 ++ leftJ ok U V (S.take 0) x = T0 := by simp [leftJ]
        rw [e]
        exact ⟨⟨vv0, _, (ext_block hE3 (block_lt t1)).trans t1, ownK_ext hown hE3⟩, (ext_block hE3 (block_lt HJ2.out.a)).trans HJ2.out.a, (ext_block hE3 (block_lt HJ2.out.b)).trans HJ2.out.b, (ext_block hE3 (block_lt HJ2.out.r)).trans HJ2.out.r, by rw [hw3, hbx]; exact heap_alloc_new wo _, Nat.le_trans HJ2.out.size (ext_size hE3), ext_trans HJ2.out.ext hE3⟩
      have HJL := Lib.hid hJL
      have HPX := Lib.hid (show p ≠ bx by omega)
      have HBX := Lib.hid (show H ≤ bx by rw [hbx]; exact HJ2.out.size)
      have HB3 := Lib.hid (show bx < w3.heap.size by rw [hbx, hw3]; simp)
      have HOK := Lib.hid (show ∀ q, (H ≤ q ∧ q ≠ bx) ∨ q = p → H ≤ q ∧ q ≠ bx from fun q hq => hq.elim id (fun e => by rw [e]; exact ⟨HPH.out.1, HPX.out⟩))
      clear hx hri hT0 hmid t1 t2 hJL
      go_wp2
      rw [← hw3, ← hbx]
      clear hc hb r1 l1 q9 l9 hw3 hbx hE3 HJ2
      go_loopw [35] (fun y wr => ∃ k : Nat, k ≤ S.length ∧ y = .int .i64 k ∧ bx < wr.heap.size ∧ JL (fun q => H ≤ q ∧ q ≠ bx) H b0 b1 b2 p bx #[.slice A1 U.length c1, .slice (some ⟨b, o, none⟩) R.length c2] #[.slice A3 V.length c3, .slice A4 S.length c4] (.slice X x.length d) (setS J) (T0 ++ leftJ ok U V (S.take k) x) w wr) (fun y _ => S.length - (intOf y).toNat)
      case atStart => exact ⟨0, Nat.zero_le _, rfl, HB3.out, HJL.out⟩
      case round =>
        rename World => wi
        obtain ⟨k, hk, rfl, hbi, hJ⟩ := hrel
        have HJ3 := Lib.hid hJ
        have HBI := Lib.hid hbi
        have HRX := Lib.hid (rdI_ext HRI.out HJ3.out.ext)
        have hmid := leftN_mid ok U V R S x hlt hk
        rw [← HT0.out] at hmid
        have hmid' : (T0 ++ leftJ ok U V (S.take k) x).length < 900000 := by have := HRS.out; omega
        obtain ⟨TT, hTT⟩ : ∃ TT, TT = T0 ++ leftJ ok U V (S.take k) x := ⟨_, rfl⟩
        rw [← hTT] at HJ3 hmid'
        have HTT := Lib.hid hTT
        clear hJ HJL hbi hmid hTT HB3
        by_cases hkt : k < S.length
        · have q0 : wi.cell? ⟨b0, 0, none⟩ = some (.slice A1 U.length c1) := block_cell HJ3.out.a 0
          have q1 : wi.cell? ⟨b0, 1, none⟩ = some (.slice (some ⟨b, o, none⟩) R.length c2) := block_cell HJ3.out.a 1
          have q2 : wi.cell? ⟨b1, 0, none⟩ = some (.slice A3 V.length c3) := block_cell HJ3.out.b 0
          have q3 : wi.cell? ⟨b1, 1, none⟩ = some (.slice A4 S.length c4) := block_cell HJ3.out.b 1
          have qx : wi.cell? ⟨bx, 0, none⟩ = some (.slice X x.length d) := block_cell HJ3.out.x 0
          have l0 := block_lt HJ3.out.a
          have l1 := block_lt HJ3.out.b
          have lx := block_lt HJ3.out.x
          have hki : (k : Int) < (S.length : Int) := by omega
          have hk0 : (0 : Int) ≤ (k : Int) := by omega
          obtain ⟨y, hy⟩ : ∃ y, S[k]? = some y := ⟨_, List.getElem?_eq_getElem hkt⟩
          have HY := Lib.hid hy
          have HYL := Lib.hid (HS.out y (List.mem_of_getElem? hy))
          obtain ⟨b', o', Y, d', rfl, hb', hc', hri⟩ := rdW_at HA4.out hy
          have HRY := Lib.hid (rdI_ext hri HJ3.out.ext)
          have hc' := (ext_cell HJ3.out.ext _ _ hb').trans hc'
          have hb' := ext_lt HJ3.out.ext hb'
          clear hy hri
          have CC := Lib.hid (comp_any (.agg #[.slice A1 U.length c1, .slice (some ⟨b, o, none⟩) R.length c2]) (.agg #[.slice A3 V.length c3, .slice (some ⟨b', o', none⟩) S.length c4]) (.slice X x.length d) (.slice Y y.length d') U V R S x y wi (tabV_ext HA.out HJ3.out.ext) (tabV_ext HB.out HJ3.out.ext) HRX.out HRY.out HVV.out (by omega) (by omega) HXL.out HYL.out)
          obtain ⟨cb, hcb⟩ : ∃ cb, cb = compB U V x y := ⟨_, rfl⟩
          rw [← hcb] at CC
          have HCC := Lib.hid hcb
          clear hcb
          cases cb
          · go_wp2_with (go_at_call 44; refine CC.out.mono ?_; rintro e w1 ⟨rfl, hE1⟩; have HJ4 := Lib.hid (HJ3.out.on hE1); have HBI4 := Lib.hid (ext_lt hE1 HBI.out); clear hE1)
            go_roundw
            case rel => exact ⟨k + 1, by omega, by go_num, HBI4.out, by rw [leftJ_no HY.out HCC.out.symm, ← HTT.out]; exact HJ4.out⟩
            case measure => simp [intOf]; omega
          · go_wp2_with (first
              | (go_at_call 44; refine CC.out.mono ?_; rintro e w1 ⟨rfl, hE1⟩; have HE1 := Lib.hid hE1; have HJ4 := Lib.hid (HJ3.out.on hE1); have HBI4 := Lib.hid (ext_lt hE1 HBI.out); have q4 : w1.cell? ⟨b0, 0, none⟩ = some (.slice A1 U.length c1) := block_cell HJ4.out.a 0; have q5 : w1.cell? ⟨b0, 1, none⟩ = some (.slice (some ⟨b, o, none⟩) R.length c2) := block_cell HJ4.out.a 1; have q6 : w1.cell? ⟨b1, 0, none⟩ = some (.slice A3 V.length c3) := block_cell HJ4.out.b 0; have q7 : w1.cell? ⟨b1, 1, none⟩ = some (.slice (some ⟨b', o', none⟩) S.length c4) := block_cell HJ4.out.b 1; have qx4 : w1.cell? ⟨bx, 0, none⟩ = some (.slice X x.length d) := block_cell HJ4.out.x 0; have l4 := block_lt HJ4.out.a; have l5 := block_lt HJ4.out.b; have lx4 := block_lt HJ4.out.x; clear hE1 q0 q1 q2 q3 qx l0 l1 lx)
              | (go_at_call 45; refine (joined_anyK (fun q => H ≤ q ∧ q ≠ bx) H p _ _ _ _ _ _ (setS J) U V TT R S x y w1 HJ4.out.tab (tabV_ext HA.out HJ4.out.ext) (tabV_ext HB.out HJ4.out.ext) (rdI_ext HRX.out HE1.out) (rdI_ext HRY.out HE1.out) HUU.out HVV.out (by omega) (by omega) HXL.out HYL.out (fun q hq => ⟨Nat.le_trans HJ4.out.size hq, fun e => by have := HBI4.out; omega⟩) HJ4.out.size (fun q hq => hq.1) (by omega) (by omega)).mono ?_; rintro e w2 ⟨rfl, hT2, hU2⟩; have HJ5 := Lib.hid (HJ4.out.more hT2 hU2 HOK.out HBD.out); have HBI5 := Lib.hid (Nat.lt_of_lt_of_le HBI4.out hU2.size); clear hT2 hU2 q4 q5 q6 q7 qx4 l4 l5 lx4 hc' hb'; (have hje : rowOf (setS J) (joinG U V x y) = joinR U V x y := by rw [HJE.out]; rfl); obtain ⟨jr, hjr⟩ : ∃ jr, jr = joinR U V x y := ⟨_, rfl⟩; rw [hje, ← hjr] at HJ5; have HJR := Lib.hid hjr; (have HJRL := Lib.hid (show jr.length = (setS J).length by rw [hjr, HJE.out]; exact rowOf_length _ _)); clear hje hjr; obtain ⟨vv5, rv5, t1, t2⟩ := HJ5.out.tab; have t3 := ownK_own t2 (fun q hq => hq.1); obtain ⟨A7, c7, rfl⟩ := rdS_form (rdS_row t3.1.1); have t4 := own_rdW t3; obtain ⟨A8, c8, rfl⟩ := rdW_form t4; obtain ⟨b6, o6, B6, d6, rfl, hb6, hc6, hri6⟩ := rdW_at t4 (i := TT.length) (x := jr) (by simp); obtain ⟨n8, hn8⟩ : ∃ n8, n8 = (TT ++ [jr]).length := ⟨_, rfl⟩; (have hn8' : n8 = TT.length + 1 := by rw [hn8]; simp); (have hcap : n8 ≤ c8 := by rw [hn8]; exact (rowE_cap t2.2.choose_spec.1.1).1 ▸ (rowE_cap t2.2.choose_spec.1.1).2); rw [← hn8] at t1 t2 t3 t4; obtain ⟨m8, hm8⟩ : ∃ m8, m8 = TT.length := ⟨_, rfl⟩; rw [← hm8] at hc6; (have hwr : IntKind.i64.wrap ((n8 : Int) - 1) = (m8 : Int) := by rw [show (n8 : Int) - 1 = (m8 : Int) by omega]; exact IntWalk.i64_in _ (by omega)); (have hmn : (m8 : Int) < (n8 : Int) := by omega); (have hm0 : (0 : Int) ≤ (m8 : Int) := by omega); (have hmc : (m8 : Int) ≤ (c8 : Int) := by omega); (have hmcn : m8 ≤ c8 := by omega); have HT1 := Lib.hid t1; have HT2 := Lib.hid t2; have HT3 := Lib.hid t3; have HRI6 := Lib.hid hri6; have HM8 := Lib.hid hm8; have HN8 := Lib.hid hn8'; have q4 : w2.cell? ⟨p, 0, none⟩ = some (.slice A7 (setS J).length c7) := block_cell t1 0; have q5 : w2.cell? ⟨p, 1, none⟩ = some (.slice (some ⟨b6, o6, none⟩) n8 c8) := block_cell t1 1; have lp := block_lt t1; clear t1 t2 t3 t4 hri6 hn8 hn8' hm8))
            have CO := Lib.hid (show ∀ w', Ext w2 w' → Calls Tryd.prog g (#[.agg #[.slice A7 (setS J).length c7, .slice (some ⟨b6, o6, none⟩) n8 c8], .slice B6 jr.length d6] ++ lb) w' (fun e w'' => e = .returned (.bool (ok jr)) ∧ Ext w' w'') from fun w' hE => HCB.out (TT ++ [jr]) jr _ _ w' (ext_trans HJ5.out.ext hE) (by simp) HJRL.out (by rw [HJR.out]; exact HPR.out x (List.mem_of_getElem? HX.out) y (List.mem_of_getElem? HY.out)) (by simp; omega) (tabV_ext (own_tab HT3.out) hE) (rdI_ext HRI6.out hE))
            have hgc := cell_grown
            refine wp_region_free 9 [0, 1, 2, 3, 4, 5, 6, 7, 8] [] (by kernel_rfl) (by kernel_rfl) ?_
            repeat (refine wpLoose_step rfl (fun K hK => ?_); (try simp only [Oper.quietAt, Oper.quietUpon]); go_simp; first | (refine hK _ ?_; clear hK K) | (apply Exists.intro; refine ⟨fun p => ?_, hK _ ?_⟩; (go_at_fn g; exact CO.out _ (ext_grow (ext_refl _) _ _)); clear hK K))
            refine wpLoose_nil (wpFresh_nil (fun w3 hE3 _ => ?_))
            have HE3 := Lib.hid hE3
            have HBI6 := Lib.hid (ext_lt hE3 HBI5.out)
            have HJ6 := Lib.hid (HJ5.out.on hE3)
            have hb3 := (ext_block hE3 (block_lt HT1.out)).trans HT1.out
            have q8 : w3.cell? ⟨p, 1, none⟩ = some (.slice (some ⟨b6, o6, none⟩) n8 c8) := block_cell hb3 1
            have f8 := block_frozen hb3 1
            have l8 := block_lt hb3
            have HB3 := Lib.hid hb3
            have HOW3 := Lib.hid (ownK_ext HT2.out hE3)
            clear hE3 q4 q5 lp hgc hb6 hc6 hb3
            simp only [List.drop_succ_cons, List.drop_zero]
            refine wpList_nil ?_
            obtain ⟨okv, hokv⟩ : ∃ okv, okv = ok jr := ⟨_, rfl⟩
            rw [← hokv]
            have HOV := Lib.hid hokv
            clear hokv
            cases okv
            · go_wp2
              obtain ⟨_, hT7, hU7⟩ := tabK_pop HB3.out HOW3.out
              rw [← HM8.out] at hT7 hU7
              have HJ7 := Lib.hid (HJ6.out.more hT7 (upd_mono hU7 (fun _ _ e => .inr e)) HOK.out HBD.out)
              have HBI7 := Lib.hid (Nat.lt_of_lt_of_le HBI6.out hU7.size)
              clear hT7 hU7
              go_roundw
              case rel => exact ⟨k + 1, by omega, by go_num, HBI7.out, by rw [leftJ_yes HY.out HCC.out.symm, ← HJR.out, ← HOV.out]; simp only [Bool.false_eq_true, if_false, List.append_nil]; rw [← HTT.out]; exact HJ7.out⟩
              case measure => simp [intOf]; omega
            · go_wp2
              go_roundw
              case rel => exact ⟨k + 1, by omega, by go_num, HBI6.out, by rw [leftJ_yes HY.out HCC.out.symm, ← HJR.out, ← HOV.out]; simp only [if_true]; rw [← List.append_assoc, ← HTT.out]; exact HJ6.out⟩
              case measure => simp [intOf]; omega
        · obtain rfl : k = S.length := by omega
          have hll : leftJ ok U V (S.take S.length) x = leftJ ok U V S x := by rw [List.take_length]
          have HLL := Lib.hid (show TT = T0 ++ leftJ ok U V S x by rw [HTT.out, hll])
          obtain ⟨vv5, rv5, t1, t2⟩ := HJ3.out.tab
          have t3 := ownK_own t2 (fun q hq => hq.1)
          obtain ⟨A8, c8, rfl⟩ := rdW_form (own_rdW t3)
          have q5 : wi.cell? ⟨p, 1, none⟩ = some (.slice A8 TT.length c8) := block_cell t1 1
          have lp := block_lt t1
          clear t1 t2 t3 hll
          by_cases h0 : (leftJ ok U V S x).length = 0
          · have heq : ((TT.length : Int) == (T0.length : Int)) = true := by rw [HLL.out, List.length_append, h0]; simp
            have hG : leftG ok U V S x = [rowOf (setS (U ++ V)) (valN U x)] := by unfold leftG; rw [if_pos h0]
            have hN : leftJ ok U V S x = [] := List.eq_nil_of_length_eq_zero h0
            have HG := Lib.hid hG
            have HT5 := Lib.hid (show TT = T0 by rw [HLL.out, hN, List.append_nil])
            have CR := Lib.hid (row_anyK (fun q => H ≤ q ∧ q ≠ bx) H p 58 #[.pointer (some ⟨b0, 0, none⟩), .pointer (some ⟨bx, 0, none⟩)] eg58 (setS J) TT (valN U x) wi HJ3.out.tab (fun w1 hE1 v _ => ljF_any b0 bx _ _ _ U R x v w1 ((ext_block hE1 (block_lt HJ3.out.a)).trans HJ3.out.a) ((ext_block hE1 (block_lt HJ3.out.x)).trans HJ3.out.x) (tabV_ext HA.out (ext_trans HJ3.out.ext hE1)) (rdI_ext HRX.out hE1) HUU.out (by omega) HXL.out) (fun q hq => ⟨Nat.le_trans HJ3.out.size hq, fun e => by have := HBI.out; omega⟩) HJ3.out.size (fun q hq => hq.1) (by omega) (by omega))
            clear hG hN h0
            go_wp2_with (go_at_call 55; refine CR.out.mono ?_; rintro e w2 ⟨rfl, hT2, hU2⟩; have HJ5 := Lib.hid (HJ3.out.more hT2 hU2 HOK.out HBD.out); clear hT2 hU2)
            go_roundw
            case rel => exact ⟨j + 1, by omega, by go_num, by rw [leftN_take HX.out, ← HT0.out, HG.out, ← HJE.out]; have := HJ5.out.ji (fun q hq => hq.1); rw [HT5.out] at this; exact this⟩
            case measure => simp [intOf]; omega
          · have heq : ((TT.length : Int) == (T0.length : Int)) = false := by rw [beq_eq_false_iff_ne, HLL.out, List.length_append]; omega
            have HG := Lib.hid (show leftG ok U V S x = leftJ ok U V S x by unfold leftG; rw [if_neg h0])
            clear h0
            go_wp2
            go_roundw
            case rel => exact ⟨j + 1, by omega, by go_num, by rw [leftN_take HX.out, ← HT0.out, HG.out, ← HLL.out]; exact HJ3.out.ji (fun q hq => hq.1)⟩
            case measure => simp [intOf]; omega
    · obtain rfl : j = R.length := by omega
      have hT := HJ2.out.tab
      rw [List.take_length] at hT
      obtain ⟨vv, rv, hp, how⟩ := hT
      obtain ⟨A7, c7, rfl⟩ := rdS_form (rdS_row how.1.1)
      obtain ⟨A8, c8, rfl⟩ := rdW_form (own_rdW how)
      obtain ⟨N, hN⟩ : ∃ N, N = leftN ok U V R S := ⟨_, rfl⟩
      rw [← hN] at how hp
      have q0 : wo.cell? ⟨p, 0, none⟩ = some (.slice A7 (setS J).length c7) := block_cell hp 0
      have q1 : wo.cell? ⟨p, 1, none⟩ = some (.slice A8 N.length c8) := block_cell hp 1
      have lp := block_lt hp
      have r0 : wo.cell? ⟨b2, 0, none⟩ = some (.slice none 0 0) := block_cell HJ2.out.r 0
      have r1 : wo.cell? ⟨b2, 1, none⟩ = some (.slice none 0 0) := block_cell HJ2.out.r 1
      have s0 : wo.frozen? ⟨b2, 0, none⟩ = false := block_frozen HJ2.out.r 0
      have s1 : wo.frozen? ⟨b2, 1, none⟩ = false := block_frozen HJ2.out.r 1
      have l1 := block_lt HJ2.out.r
      have HOW := Lib.hid how
      have HN := Lib.hid hN
      clear hp how hN
      go_wp2
      obtain ⟨wf, hwf⟩ : ∃ wf, wf = (wo.setCell ⟨b2, 0, none⟩ (.slice A7 (setS J).length c7)).setCell ⟨b2, 1, none⟩ (.slice A8 N.length c8) := ⟨_, rfl⟩
      obtain ⟨t0, t1, ho, he⟩ := fin_tab (w := w) hwf HOW.out HJ2.out.r HBD.out.2.2.1 HB2.out HJ2.out.ext
      rw [← hwf]
      refine bodyPost_ret (v := .agg #[.slice A7 (setS J).length c7, .slice A8 N.length c8]) (by simp [results, Tryd.results23, go_sem, t0, t1]) rfl ?_
      rw [HJE.out, HN.out] at ho
      rw [HJE.out, HN.out]
      exact ⟨_, _, rfl, ho, he⟩
end Go.Proofs.YtniggdaakiofeaaDoor
