/- EmitPlays, walked. -/
import Derived.Test.YteccpinilpkmiaaEt
namespace Go.Proofs.Yteccpinilpkmiaa
open Go Go.RowKit Go.Sort Go.Shelf
set_option maxHeartbeats 800000

def LastAt (W w : World) (p : Nat) (k : ByteArray) (L : List ByteArray) (A : Option Addr) (c : Nat) : Prop := EmAt w p k (.slice A L.length c) ∧ rowE elS w (.slice A L.length c) L ∧ ∀ b, (Value.slice A L.length c).ownBlock = some b → W.heap.size ≤ b
theorem lastAt_ext {W w w' : World} {p c : Nat} {k : ByteArray} {L : List ByteArray} {A : Option Addr} (h : LastAt W w p k L A c) (hE : Ext w w') : LastAt W w' p k L A c := ⟨emAt_ext h.1 hE, rowE_ext h.2.1 hE, h.2.2⟩
theorem lastAt_bump {W w w' : World} {p c : Nat} {k : ByteArray} {L X : List ByteArray} {A : Option Addr} {v : Value} (h : LastAt W w p k L A c) (hu : Upd (fun b => v.ownBlock = some b) w w') (hv : rowE elS w v X) (hne : ∀ b, (Value.slice A L.length c).ownBlock = some b → v.ownBlock ≠ some b) : LastAt W w' p k L A c :=
  ⟨emAt_upd h.1 hu (fun e => rowE_off hv h.1 (by decide) e), rowE_upd h.2.1 hu hne, h.2.2⟩
theorem ext_bump {W w w' : World} {v : Value} (hE : Ext W w) (hu : Upd (fun b => v.ownBlock = some b) w w') (hv : ∀ b, v.ownBlock = some b → W.heap.size ≤ b) : Ext W w' :=
  ext_of_upd (upd_trans (upd_of_ext (fp := fun _ => False) hE) hu (fun i hi e => by have := hv i e; omega))
theorem last_row (W w : World) (p c : Nat) (k : ByteArray) (L : List ByteArray) (A : Option Addr) (h : LastAt W w p k L A c) (hl : L.length ≤ 1000000) : Calls Try.prog 16 #[.pointer (some ⟨p, 0, none⟩)] w fun e w' => ∃ A c, e = .returned (.slice A L.length c) ∧ rowF elS w.heap.size L (.slice A L.length c) w' ∧ Ext w w' := by
  refine (last_any p k _ L w h.1 h.2.1 hl).mono ?_
  rintro e w' ⟨v', rfl, h4, h5⟩
  obtain ⟨A, c, rfl⟩ := rowE_form h4.1
  exact ⟨A, c, rfl, h4, h5⟩
/-- the loop that lengthens -/
theorem bump_off {w0 wr : World} {v : Value} {L : List ByteArray} {i : Nat} (h : BumpR w0 v L i wr) : Upd (fun b => v.ownBlock = some b) w0 wr := h.1

theorem plays_no (k : ByteArray) (v0 : Value) (LL : List (List ByteArray)) (W : World) (h0 : RdSS W v0 LL) (hl : LL.length ≤ maxLen) (hl1 : ∀ L ∈ LL, L.length ≤ maxLen) (hf : fewB LL = false) :
    Calls Try.prog 7 #[.string k, v0] W fun e w' => e = .returned (.bool true) ∧ Ext W w' := by
  have H0 := Lib.hid h0
  obtain ⟨A0, c0, rfl, hA0⟩ := h0
  have HL0 := Lib.hid hl
  have HFM := Lib.hid hl1
  have HF := Lib.hid hf
  clear hl hA0 hl1 hf
  go_enter Try.func7, Try.ntmps7
  go_wp2_with fail
  refine (awake_any _).mono ?_
  rintro e w1 ⟨rfl, hE⟩
  have HE1 := Lib.hid hE
  clear hE
  go_wp2_with fail
  refine (few_any _ LL _ (rdSS_ext H0.out HE1.out) HL0.out HFM.out).mono ?_
  rintro e w2 ⟨rfl, rfl⟩
  rw [HF.out]
  go_wp2_with fail
  refine (awake_any _).mono ?_
  rintro e w3 ⟨rfl, hE⟩
  have HE3 := Lib.hid (ext_trans HE1.out hE)
  clear hE
  go_wp2
  refine bodyPost_ret (results_tmp rfl _ _ _) rfl ?_
  exact ⟨rfl, HE3.out⟩

theorem prevS (LL : List (List ByteArray)) (j : Nat) (h : ∀ L ∈ LL, ∀ x ∈ L, x.size ≤ 281474976710656) : ∀ x ∈ prevL LL j, x.size ≤ 281474976710656 := by
  cases j with
  | zero => simp [prevL]
  | succ k =>
    rcases hk : LL[k]? with _ | L
    · simp [prevL, List.getD, hk]
    · rw [prevL_succ hk]; exact h L (List.mem_of_getElem? hk)
theorem big_max {n : Nat} (h : n ≤ 281474976710656) : n ≤ maxLen := Nat.le_trans h (by decide)
theorem kindR_yes {k : ByteArray} (h : kR = k) : kindAt k 1 = 0 := by subst h; decide
theorem kindI_yes {k : ByteArray} (h : kI = k) : kindAt k 2 = 1 := by subst h; decide
theorem kindD_yes {k : ByteArray} (h : kD = k) : kindAt k 3 = 2 := by subst h; decide
theorem kindR_no {k : ByteArray} (h : ¬ kR = k) : kindAt k 1 = kindAt k 0 := if_neg h
theorem kindI_no {k : ByteArray} (h : ¬ kI = k) : kindAt k 2 = kindAt k 1 := if_neg h
theorem kindD_no {k : ByteArray} (h : ¬ kD = k) : kindAt k 3 = kindAt k 2 := if_neg h
theorem index3 (j : Int) (x : ByteArray) (w : World) (h : (j = 0 ∧ x = kR) ∨ (j = 1 ∧ x = kI) ∨ (j = 2 ∧ x = kD)) : Sem.run Try.prog (Instr.index 35 (.agg #[.string { data := #[82, 83, 84, 82, 69, 65, 77] }, .string { data := #[73, 83, 84, 82, 69, 65, 77] }, .string { data := #[68, 83, 84, 82, 69, 65, 77] }]) (.int .i64 j)) w = .ok (.string x) w := by
  rcases h with ⟨rfl, rfl⟩ | ⟨rfl, rfl⟩ | ⟨rfl, rfl⟩ <;> kernel_rfl
set_option maxRecDepth 100000 in
theorem plays_yes (k : ByteArray) (v0 : Value) (LL : List (List ByteArray)) (W : World) (h0 : RdSS W v0 LL) (hl : LL.length ≤ maxLen) (hl1 : ∀ L ∈ LL, L.length ≤ maxLen) (hs1 : ∀ L ∈ LL, ∀ x ∈ L, x.size ≤ 281474976710656) (hf : fewB LL = true) :
    Calls Try.prog 7 #[.string k, v0] W fun e w' => e = .returned (.bool true) ∧ Ext W w' := by
  have H0 := Lib.hid h0
  obtain ⟨A0, c0, rfl, hA0⟩ := h0
  have HA := Lib.hid hA0
  have S0 := Lib.hid hs1
  have HL0 := Lib.hid hl
  have HFM := Lib.hid hl1
  have HLM := Lib.hid (few_all hf).1
  have hl12 : LL.length ≤ 12 := (few_all hf).2
  have HF := Lib.hid hf
  clear hl hA0 hl1 hs1 hf
  go_enter Try.func7, Try.ntmps7
  go_wp2_with fail
  refine (awake_any _).mono ?_
  rintro e w1 ⟨rfl, hE⟩
  have HE1 := Lib.hid hE
  clear hE
  go_wp2_with fail
  refine (few_any _ LL _ (rdSS_ext H0.out HE1.out) HL0.out HFM.out).mono ?_
  rintro e w2 ⟨rfl, rfl⟩
  rw [HF.out]
  go_wp2
  go_loop [28, 5] (fun x y => ∃ j : Nat, j ≤ 3 ∧ x = .int .i64 j ∧ y = .int .i64 (kindAt k j)) (fun x _ => 3 - (intOf x).toNat)
  case atStart => exact ⟨0, by omega, rfl, rfl⟩
  case round =>
    obtain ⟨j, hj, rfl, rfl⟩ := hrel
    by_cases hlt : j < 3
    · obtain ⟨m, hm⟩ : ∃ m : Int, m = kindAt k j := ⟨_, rfl⟩
      rw [← hm]
      have HM := Lib.hid hm
      clear hm
      have hb : (kR.toList == k.toList) = decide (kR = k) := by rw [Bool.beq_comm, list_kR, is_kR]; exact decide_eq_decide.2 eq_comm
      have hb1 : (kI.toList == k.toList) = decide (kI = k) := by rw [Bool.beq_comm, list_kI, is_kI]; exact decide_eq_decide.2 eq_comm
      have hb2 : (kD.toList == k.toList) = decide (kD = k) := by rw [Bool.beq_comm, list_kD, is_kD]; exact decide_eq_decide.2 eq_comm
      have hix0 := (fun w => index3 0 kR w (.inl ⟨rfl, rfl⟩))
      have hix1 := (fun w => index3 1 kI w (.inr (.inl ⟨rfl, rfl⟩)))
      have hix2 := (fun w => index3 2 kD w (.inr (.inr ⟨rfl, rfl⟩)))
      rcases (by omega : j = 0 ∨ j = 1 ∨ j = 2) with rfl | rfl | rfl
      · by_cases he : kR = k
        · have HEQ := Lib.hid he
          rw [decide_eq_true he] at hb
          clear he hb1 hb2
          simp only [Int.natCast_zero]
          go_wp2
          go_round
          case rel => exact ⟨1, by omega, rfl, by rw [kindR_yes HEQ.out]⟩
          case measure => simp [intOf]
        · have HEQ := Lib.hid he
          rw [decide_eq_false he] at hb
          clear he hb1 hb2
          simp only [Int.natCast_zero]
          go_wp2
          go_round
          case rel => exact ⟨1, by omega, rfl, by rw [kindR_no HEQ.out, HM.out]⟩
          case measure => simp [intOf]
      · by_cases he : kI = k
        · have HEQ := Lib.hid he
          rw [decide_eq_true he] at hb1
          clear he hb hb2
          rw [show ((1 : Nat) : Int) = 1 from rfl]
          go_wp2
          go_round
          case rel => exact ⟨2, by omega, rfl, by rw [kindI_yes HEQ.out]⟩
          case measure => simp [intOf]
        · have HEQ := Lib.hid he
          rw [decide_eq_false he] at hb1
          clear he hb hb2
          rw [show ((1 : Nat) : Int) = 1 from rfl]
          go_wp2
          go_round
          case rel => exact ⟨2, by omega, rfl, by rw [kindI_no HEQ.out, HM.out]⟩
          case measure => simp [intOf]
      · by_cases he : kD = k
        · have HEQ := Lib.hid he
          rw [decide_eq_true he] at hb2
          clear he hb hb1
          rw [show ((2 : Nat) : Int) = 2 from rfl]
          go_wp2
          go_round
          case rel => exact ⟨3, by omega, rfl, by rw [kindD_yes HEQ.out]⟩
          case measure => simp [intOf]
        · have HEQ := Lib.hid he
          rw [decide_eq_false he] at hb2
          clear he hb hb1
          rw [show ((2 : Nat) : Int) = 2 from rfl]
          go_wp2
          go_round
          case rel => exact ⟨3, by omega, rfl, by rw [kindD_no HEQ.out, HM.out]⟩
          case measure => simp [intOf]
    · obtain rfl : j = 3 := by omega
      by_cases hk : knows k = true
      · have HK := Lib.hid hk
        clear hk
        obtain ⟨m, hm⟩ : ∃ m : Int, m = kindAt k 3 := ⟨_, rfl⟩
        have hm0 : 0 ≤ m := by
          rw [hm]
          have := HK.out
          simp only [knows, decide_eq_true_eq] at this
          rcases this with h | h | h <;> rw [h] <;> decide
        have hmlt : ¬ m < 0 := by omega
        rw [← hm]
        have HM := Lib.hid hm
        clear hm
        rw [show ((3 : Nat) : Int) = 3 from rfl]
        go_wp2_with fail
        refine (new_good k HK.out _).mono ?_
        rintro e w3 ⟨p, rfl, hp, hem, hE⟩
        have HP := Lib.hid (Nat.le_trans (ext_size HE1.out) hp)
        have HEM := Lib.hid hem
        have HE3 := Lib.hid (ext_trans HE1.out hE)
        clear hp hem hE
        go_wp2_with fail
        refine (kind_any p k _ _ HEM.out).mono ?_
        rintro e w4 ⟨rfl, rfl⟩
        have hkk : (k.toList == k.toList) = true := by simp
        have hkk' : (k.toList != k.toList) = false := by simp
        go_wp2
        go_loopw [64, 10] (fun x y wr => ∃ (j : Nat) (A : Option Addr) (c : Nat), j ≤ LL.length ∧ x = .int .i64 j ∧ RdS W y (prevL LL j) ∧ LastAt W wr p k (sortS (prevL LL j)) A c ∧ Ext W wr) (fun x _ _ => LL.length - (intOf x).toNat)
        case atStart => exact ⟨0, none, 0, by omega, rfl, rdS_row (rowE_nil _), ⟨by have h : sortS ([] : List ByteArray) = [] := by rw [sortS_eq]; rfl
                                                                                    rw [prevL, h]; exact HEM.out, by rw [prevL]; have h : sortS ([] : List ByteArray) = [] := by rw [sortS_eq]; rfl
                                                                                                                     rw [h]; exact rowE_nil _, fun b e => by cases e⟩, HE3.out⟩
        case round =>
          rename World => wo
          obtain ⟨j, A, c, hj, rfl, hy, hlast, hE⟩ := hrel
          have HY := Lib.hid hy
          obtain ⟨A2, c2, rfl, -, -⟩ := hy
          have HE := Lib.hid hE
          have HLA := Lib.hid hlast
          have HPL := Lib.hid (prevL_len HLM.out j)
          have HPS := Lib.hid (prevS LL j S0.out)
          clear hE hlast
          obtain ⟨P, hP⟩ : ∃ P, P = prevL LL j := ⟨_, rfl⟩
          rw [← hP] at HPL HPS HLA HY ⊢
          clear hP
          have hpl : P.length ≤ 20 := HPL.out
          by_cases hlt2 : j < LL.length
          · have hji : (j : Int) < (LL.length : Int) := by omega
            have hj0 : (0 : Int) ≤ (j : Int) := by omega
            obtain ⟨L, hL⟩ : ∃ L, LL[j]? = some L := ⟨_, List.getElem?_eq_getElem hlt2⟩
            obtain ⟨b, off, hA0, hb, hca⟩ := HA.out (fun e => by rw [e] at hL; simp at hL)
            subst hA0
            obtain ⟨u, q0', hu⟩ := hca j L hL
            have RL := Lib.hid hu
            obtain ⟨A1, c1, rfl, -, -⟩ := hu
            have q0 := (ext_cell HE.out _ _ hb).trans q0'
            have lb := ext_lt HE.out hb
            have hll : L.length ≤ 20 := HLM.out L (List.mem_of_getElem? hL)
            have HSZ1 := Lib.hid (S0.out L (List.mem_of_getElem? hL))
            have HSZ3 := Lib.hid (show ∀ x ∈ sortS L, x.size ≤ 281474976710656 from fun x hx => HSZ1.out x ((sortS_perm L).mem_iff.1 hx))
            have HL := Lib.hid hL
            have hsl : (sortS L).length ≤ 20 := by rw [sortS_length]; exact hll
            clear hca q0' hL
            go_wp2_with (at_builtin; refine halt_here ?_)
            refine go_on ?_
            refine wpList_append rfl (.tmp 68) (.tmp 69) rfl _ _ rfl rfl (fun v' w' => Ext (wo.alloc (.cells #[] 9)) w' ∧ rowF elS wo.heap.size L v' w') (append_copy tpS _ wo.heap.size _ _ L _ ⟨wo.heap.size, rfl, Nat.le_refl _, heap_alloc_new wo _⟩ (rdS_src (rdS_ext RL.out (ext_trans HE.out (ext_alloc (ext_refl _) _)))) (by omega)) ?_
            rintro v5 w5 ⟨hE5, hR5⟩
            have HE5 := Lib.hid (ext_trans (ext_alloc (ext_refl wo) (.cells #[] 9)) hE5)
            have HR5 := Lib.hid hR5
            clear hE5 hR5
            obtain ⟨Ao, co, hv5⟩ := rowE_form HR5.out.1
            subst hv5
            have HLA5 := Lib.hid (lastAt_ext HLA.out HE5.out)
            have HEW5 := Lib.hid (ext_trans HE.out HE5.out)
            go_wp2_with fail
            refine (next_any p k _ _ (sortS P) L w5 HLA5.out.1 HLA5.out.2.1 (rdS_row HR5.out.1) (by rw [sortS_length]; omega) (by omega) (fun x hx => big_max (HPS.out x ((sortS_perm P).mem_iff.1 hx))) (fun x hx => big_max (HSZ1.out x hx))).mono ?_
            rintro e w6 ⟨v1, lv, rfl, hem6, hr6, hl6, hoff, hup⟩
            obtain ⟨N, hN⟩ : ∃ N, N = toldL k (sortS P) (sortS L) := ⟨_, rfl⟩
            rw [← hN] at hl6
            have hnl : N.length ≤ 20 := by rw [hN]; exact told_len (by rw [sortS_length]; omega) hsl
            have HSZ2 := Lib.hid (show ∀ x ∈ N, x.size ≤ 281474976710656 by rw [hN]; exact told_mem (fun x hx => HPS.out x ((sortS_perm P).mem_iff.1 hx)) HSZ3.out)
            have HNR := Lib.hid (show N = refNextL m P L by rw [hN, HM.out]; exact next_eq HK.out P L)
            clear hN
            obtain ⟨A', c', rfl⟩ := rowE_form hr6.1
            obtain ⟨Ag, cg0, rfl⟩ := rowE_form hl6.1
            have SEP1 := Lib.hid (show ∀ b, (Value.slice A' (sortS L).length c').ownBlock = some b → (Value.slice Ao L.length co).ownBlock ≠ some b from fun b e1 e2 => by have h1 := hr6.2 b e1; have h2 := (rowE_block HR5.out.1 e2).1; omega)
            have SEP2 := Lib.hid (show ∀ b, (Value.slice Ag N.length cg0).ownBlock = some b → ¬ (Value.slice Ao L.length co).ownBlock = some b from fun b e1 e2 => by have h1 := hl6.2 b e1; have h2 := (rowE_block HR5.out.1 e2).1; omega)
            have SEP3 := Lib.hid hoff
            have LAST6 := Lib.hid (show LastAt W w6 p k (sortS L) A' c' from ⟨hem6, hr6.1, fun b e => Nat.le_trans (ext_size HEW5.out) (hr6.2 b e)⟩)
            have OWN6 := Lib.hid (rowE_upd HR5.out.1 hup (fun b e1 e2 => rowE_off HR5.out.1 HLA5.out.1 (by decide) (e1.trans (by rw [e2]))))
            have OWNLO := Lib.hid (show ∀ b, (Value.slice Ao L.length co).ownBlock = some b → W.heap.size ≤ b from fun b e => Nat.le_trans (ext_size HE.out) (HR5.out.2 b e))
            have GOTLO := Lib.hid (show ∀ b, (Value.slice Ag N.length cg0).ownBlock = some b → W.heap.size ≤ b from fun b e => Nat.le_trans (ext_size HEW5.out) (hl6.2 b e))
            have GOT6 := Lib.hid hl6.1
            have HE6 := Lib.hid (ext_upd HEW5.out hup HP.out)
            clear hem6 hr6 hl6 hoff hup
            go_wp2_with fail
            refine (same_any _ _ L L w6 (rdS_row OWN6.out) (rdS_ext RL.out HE6.out) (by omega) (by omega)).mono ?_
            rintro e w7 ⟨rfl, hE⟩
            have HE7 := Lib.hid (ext_trans HE6.out hE)
            have OWN7 := Lib.hid (rowE_ext OWN6.out hE)
            have GOT7 := Lib.hid (rowE_ext GOT6.out hE)
            have LAST7 := Lib.hid (lastAt_ext LAST6.out hE)
            clear hE
            rw [show decide (L = L) = true from decide_eq_true rfl]
            go_wp2_with fail
            refine (refnext_any m _ _ P L w7 (rdS_ext HY.out HE7.out) (rdS_ext RL.out HE7.out) (by omega) (by omega)).mono ?_
            rintro e w8 ⟨lv8, rfl, hr8, hE⟩
            rw [← HNR.out] at hr8
            have HE8 := Lib.hid (ext_trans HE7.out hE)
            have OWN8 := Lib.hid (rowE_ext OWN7.out hE)
            have GOT8 := Lib.hid (rowE_ext GOT7.out hE)
            have LAST8 := Lib.hid (lastAt_ext LAST7.out hE)
            have REF8 := Lib.hid hr8.1
            obtain ⟨Ar, cr, rfl⟩ := rowE_form hr8.1
            clear hE hr8
            go_wp2_with fail
            refine (same_row _ _ N w8 GOT8.out REF8.out (by omega)).mono ?_
            rintro e w9 ⟨rfl, hE⟩
            have HE9 := Lib.hid (ext_trans HE8.out hE)
            have OWN9 := Lib.hid (rowE_ext OWN8.out hE)
            have GOT9 := Lib.hid (rowE_ext GOT8.out hE)
            have LAST9 := Lib.hid (lastAt_ext LAST8.out hE)
            clear hE
            go_wp2
            go_loopw [89] (fun x wr => ∃ i : Nat, i ≤ L.length ∧ x = .int .i64 i ∧ BumpR w9 (Value.slice Ao L.length co) L i wr) (fun x _ => L.length - (intOf x).toNat)
            case atStart => exact ⟨0, by omega, rfl, bump_start OWN9.out⟩
            case round =>
              rename World => wb
              obtain ⟨i, hi, rfl, hb⟩ := hrel
              have HB := Lib.hid hb
              clear hb
              by_cases hli : i < L.length
              · have hii : (i : Int) < (L.length : Int) := by omega
                have hi0 : (0 : Int) ≤ (i : Int) := by omega
                obtain ⟨x, hx⟩ : ∃ x, L[i]? = some x := ⟨_, List.getElem?_eq_getElem hli⟩
                obtain ⟨g, cg, hv, q1, qf, lg⟩ := bump_at HB.out hx
                simp only [Value.slice.injEq, true_and] at hv
                obtain ⟨rfl, rfl⟩ := hv
                have hxs := HSZ1.out x (List.mem_of_getElem? hx)
                clear hx
                go_wp2
                go_roundw
                case rel => exact ⟨i + 1, by omega, by go_num, bump_step _ HB.out⟩
                case measure => simp [intOf]; omega
              · obtain rfl : i = L.length := by omega
                have HU := Lib.hid HB.out.1
                have LASTa := Lib.hid (lastAt_bump LAST9.out HU.out OWN9.out SEP1.out)
                have GOTa := Lib.hid (rowE_upd GOT9.out HU.out SEP2.out)
                have HEa := Lib.hid (ext_bump HE9.out HU.out OWNLO.out)
                clear HU HB
                go_wp2
                go_loopw [101] (fun x wr => ∃ i : Nat, i ≤ N.length ∧ x = .int .i64 i ∧ BumpR wb (Value.slice Ag N.length cg0) N i wr) (fun x _ => N.length - (intOf x).toNat)
                case atStart => exact ⟨0, by omega, rfl, bump_start GOTa.out⟩
                case round =>
                  rename World => wc
                  obtain ⟨i, hi, rfl, hb⟩ := hrel
                  have HB := Lib.hid hb
                  clear hb
                  by_cases hli : i < N.length
                  · have hii : (i : Int) < (N.length : Int) := by omega
                    have hi0 : (0 : Int) ≤ (i : Int) := by omega
                    obtain ⟨x, hx⟩ : ∃ x, N[i]? = some x := ⟨_, List.getElem?_eq_getElem hli⟩
                    obtain ⟨g, cg, hv, q1, qf, lg⟩ := bump_at HB.out hx
                    simp only [Value.slice.injEq, true_and] at hv
                    obtain ⟨rfl, rfl⟩ := hv
                    have hxs := HSZ2.out x (List.mem_of_getElem? hx)
                    clear hx
                    go_wp2
                    go_roundw
                    case rel => exact ⟨i + 1, by omega, by go_num, bump_step _ HB.out⟩
                    case measure => simp [intOf]; omega
                  · obtain rfl : i = N.length := by omega
                    have HU := Lib.hid HB.out.1
                    have LASTb := Lib.hid (lastAt_bump LASTa.out HU.out GOTa.out SEP3.out)
                    have HEb := Lib.hid (ext_bump HEa.out HU.out GOTLO.out)
                    clear HU HB
                    go_wp2_with fail
                    refine (last_row W _ p c' k (sortS L) A' LASTb.out (by omega)).mono ?_
                    rintro e w11 ⟨Al, cl, rfl, hl11, hE⟩
                    have HE11 := Lib.hid (ext_trans HEb.out hE)
                    have LAST11 := Lib.hid (lastAt_ext LASTb.out hE)
                    have LROW11 := Lib.hid hl11.1
                    have LLO := Lib.hid (show ∀ b, (Value.slice Al (sortS L).length cl).ownBlock = some b → W.heap.size ≤ b from fun b e => Nat.le_trans (ext_size HEb.out) (hl11.2 b e))
                    have SEP4 := Lib.hid (show ∀ b, (Value.slice A' (sortS L).length c').ownBlock = some b → (Value.slice Al (sortS L).length cl).ownBlock ≠ some b from fun b e1 e2 => by have h1 := hl11.2 b e2; have h2 := (rowE_block LASTb.out.2.1 e1).1; omega)
                    clear hl11 hE
                    go_wp2_with fail
                    refine (refsort_row _ L _ (rdS_ext RL.out HE11.out) (by omega)).mono ?_
                    rintro e w12 ⟨As, cs, rfl, hr12, hE⟩
                    rw [← sortS_eq] at hr12 ⊢
                    have HE12 := Lib.hid (ext_trans HE11.out hE)
                    have LAST12 := Lib.hid (lastAt_ext LAST11.out hE)
                    have LROW12 := Lib.hid (rowE_ext LROW11.out hE)
                    have RS12 := Lib.hid hr12
                    clear hr12 hE
                    go_wp2_with fail
                    refine (same_row _ _ (sortS L) _ LROW12.out RS12.out (by omega)).mono ?_
                    rintro e w13 ⟨rfl, hE⟩
                    have HE13 := Lib.hid (ext_trans HE12.out hE)
                    have LAST13 := Lib.hid (lastAt_ext LAST12.out hE)
                    have LROW13 := Lib.hid (rowE_ext LROW12.out hE)
                    clear hE
                    go_wp2
                    go_loopw [120] (fun x wr => ∃ i : Nat, i ≤ (sortS L).length ∧ x = .int .i64 i ∧ BumpR w13 (Value.slice Al (sortS L).length cl) (sortS L) i wr) (fun x _ => (sortS L).length - (intOf x).toNat)
                    case atStart => exact ⟨0, by omega, rfl, bump_start LROW13.out⟩
                    case round =>
                      rename World => wd
                      obtain ⟨i, hi, rfl, hb⟩ := hrel
                      have HB := Lib.hid hb
                      clear hb
                      by_cases hli : i < (sortS L).length
                      · have hii : (i : Int) < ((sortS L).length : Int) := by omega
                        have hi0 : (0 : Int) ≤ (i : Int) := by omega
                        obtain ⟨x, hx⟩ : ∃ x, (sortS L)[i]? = some x := ⟨_, List.getElem?_eq_getElem hli⟩
                        obtain ⟨g, cg, hv, q1, qf, lg⟩ := bump_at HB.out hx
                        simp only [Value.slice.injEq, true_and] at hv
                        obtain ⟨rfl, rfl⟩ := hv
                        have hxs := HSZ3.out x (List.mem_of_getElem? hx)
                        clear hx
                        go_wp2
                        go_roundw
                        case rel => exact ⟨i + 1, by omega, by go_num, bump_step _ HB.out⟩
                        case measure => simp [intOf]; omega
                      · obtain rfl : i = (sortS L).length := by omega
                        have HU := Lib.hid HB.out.1
                        have LASTd := Lib.hid (lastAt_bump LAST13.out HU.out LROW13.out SEP4.out)
                        have HEd := Lib.hid (ext_bump HE13.out HU.out LLO.out)
                        clear HU HB
                        go_wp2
                        go_roundw
                        case rel => exact ⟨j + 1, A', c', by omega, by go_num, by rw [prevL_succ HL.out]; exact RL.out, by rw [prevL_succ HL.out]; exact LASTd.out, HEd.out⟩
                        case measure => simp [intOf]; omega
          · obtain rfl : j = LL.length := by omega
            go_wp2
            refine bodyPost_ret (results_tmp rfl _ _ _) rfl ?_
            exact ⟨rfl, HE.out⟩
      · have HK := Lib.hid (Bool.eq_false_iff.2 hk)
        clear hk
        rw [kind_none HK.out]
        rw [show ((3 : Nat) : Int) = 3 from rfl]
        go_wp2_with fail
        refine (new_any k _).mono ?_
        rintro e w3 ⟨hE, ⟨h, _⟩ | ⟨_, rfl⟩⟩
        · rw [HK.out] at h; cases h
        have HE3 := Lib.hid (ext_trans HE1.out hE)
        clear hE
        go_wp2
        refine bodyPost_ret (results_tmp rfl _ _ _) rfl ?_
        exact ⟨rfl, HE3.out⟩
theorem plays_any (k : ByteArray) (v0 : Value) (LL : List (List ByteArray)) (W : World) (h0 : RdSS W v0 LL) (hl : LL.length ≤ maxLen) (hl1 : ∀ L ∈ LL, L.length ≤ maxLen) (hs1 : ∀ L ∈ LL, ∀ x ∈ L, x.size ≤ 281474976710656) :
    Calls Try.prog 7 #[.string k, v0] W fun e w' => e = .returned (.bool true) ∧ Ext W w' := by
  rcases Bool.eq_false_or_eq_true (fewB LL) with h | h
  · exact plays_yes k v0 LL W h0 hl hl1 hs1 h
  · exact plays_no k v0 LL W h0 hl hl1 h
end Go.Proofs.Yteccpinilpkmiaa
