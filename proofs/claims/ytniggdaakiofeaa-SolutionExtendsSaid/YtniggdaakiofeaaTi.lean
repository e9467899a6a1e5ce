/- The condition of Lefts; the plain law of LeftJoin. -/
import Derived.Test.YtniggdaakiofeaaTg
import Derived.Test.YtniggdaakiofeaaSo
namespace Go.Proofs.Ytniggdaakiofeaa
open Go Go.RowKit Go.Sort
set_option maxHeartbeats 4000000

def okS (V : List ByteArray) (t : Nat) (x : List Int) : Bool := decide (sumV V (valN V x) ≤ (t : Int) % 9)
def SmallR (x : List Int) : Prop := ∀ n ∈ x, n ≤ 1000
theorem sumV_take {V : List ByteArray} {k : Nat} {v : ByteArray} (h : V[k]? = some v) (f : ByteArray → Int) : sumV (V.take (k + 1)) f = sumV (V.take k) f + max (f v) 0 := by
  unfold sumV
  rw [List.take_add_one, h, Option.toList_some, List.map_append, List.sum_append]
  simp
theorem sumV_bound (f : ByteArray → Int) (hf : ∀ v, f v ≤ 1000) : ∀ V : List ByteArray, 0 ≤ sumV V f ∧ sumV V f ≤ 1000 * (V.length : Int)
  | [] => by simp [sumV]
  | v :: V => by
    have h1 := sumV_bound f hf V
    have h2 := hf v
    simp only [sumV, List.map_cons, List.sum_cons, List.length_cons] at h1 ⊢
    omega
theorem valN_small {V : List ByteArray} {x : List Int} (h : SmallR x) (v : ByteArray) : valN V x v ≤ 1000 := by
  unfold valN
  split
  · rw [List.getD_eq_getElem?_getD]
    cases hx : x[idxS V v]? with
    | none => simp
    | some n => exact h n (List.mem_of_getElem? hx)
  · omega
theorem eg14 (args : Array Value) (w : World) : (callFunc 14 args).run Try.prog w = .ok (.enter 14 args) w := enter_fn Try.func14 (by kernel_rfl) rfl args w
theorem leftsF_any (bm t : Nat) (tv xv : Value) (V : List ByteArray) (R : List (List Int)) (x : List Int) (w : World) (hm : w.heap[bm]? = some (.cells #[.int .u8 (t : Int)] 5 (0, 0))) (ht256 : t ≤ 255) (ht : TabV w tv V R) (hx : RdI w xv x) (hV : RiseS V) (hv : V.length ≤ 1000000) (hl : x.length = V.length) (hs : SmallR x) :
    Calls Try.prog 14 #[tv, xv, .pointer (some ⟨bm, 0, none⟩)] w fun e w' => e = .returned (.bool (okS V t x)) ∧ Ext w w' := by
  have CV := Lib.hid (fun (v : ByteArray) w' (hE : Ext w w') => value_any tv xv V R x v w' (tabV_ext ht hE) (rdI_ext hx hE) hV hv hl)
  obtain ⟨vv, rv, rfl, h1, h2⟩ := ht
  obtain ⟨A1, c1, rfl⟩ := rdS_form h1
  obtain ⟨A2, c2, rfl⟩ := rdW_form h2
  obtain ⟨A3, c3, rfl⟩ := rdI_form hx
  have H1 := Lib.hid h1
  have HM := Lib.hid hm
  have HSM := Lib.hid hs
  have HH0 := Lib.hid (heap_alloc_new w (.cells #[.slice A1 V.length c1, .slice A2 R.length c2] 27))
  have HE0 := Lib.hid (ext_alloc (ext_refl w) (.cells #[.slice A1 V.length c1, .slice A2 R.length c2] 27))
  clear h1 h2 hx hV hl hm hs
  go_enter Try.func14, Try.ntmps14
  go_wp2
  obtain ⟨w0, hw0⟩ : ∃ w0, w0 = w.alloc (.cells #[.slice A1 V.length c1, .slice A2 R.length c2] 27) := ⟨_, rfl⟩
  obtain ⟨b0, hb0⟩ : ∃ b0, b0 = w.heap.size := ⟨_, rfl⟩
  rw [← hw0, ← hb0] at HH0 ⊢
  rw [← hw0] at HE0
  clear hw0 hb0
  go_loopw [12, 6] (fun z y wr => ∃ k : Nat, k ≤ V.length ∧ z = .int .i64 k ∧ y = .int .i64 (sumV (V.take k) (valN V x)) ∧ Ext w0 wr) (fun z _ _ => V.length - (intOf z).toNat)
  case atStart => exact ⟨0, Nat.zero_le _, rfl, rfl, ext_refl _⟩
  case round =>
    rename World => wo
    obtain ⟨k, hk, rfl, rfl, hE⟩ := hrel
    have HE := Lib.hid hE
    have HEW := Lib.hid (ext_trans HE0.out hE)
    have hbx := (ext_block HE.out (block_lt HH0.out)).trans HH0.out
    have q0 : wo.cell? ⟨b0, 0, none⟩ = some (.slice A1 V.length c1) := block_cell hbx 0
    have q1 : wo.cell? ⟨b0, 1, none⟩ = some (.slice A2 R.length c2) := block_cell hbx 1
    have l0 := block_lt hbx
    have hbd := sumV_bound (valN V x) (valN_small HSM.out) (V.take k)
    rw [List.length_take] at hbd
    clear hE hbx
    by_cases hlt : k < V.length
    · have hki : (k : Int) < (V.length : Int) := by omega
      have hk0 : (0 : Int) ≤ (k : Int) := by omega
      obtain ⟨v, hv'⟩ : ∃ v, V[k]? = some v := ⟨_, List.getElem?_eq_getElem hlt⟩
      obtain ⟨b, off, rfl, hb, hc⟩ := rdS_at (rdS_ext H1.out HEW.out) hv'
      have HT := Lib.hid (sumV_take hv' (valN V x))
      have C := Lib.hid (CV.out v wo HEW.out)
      obtain ⟨s, hs⟩ : ∃ s, s = sumV (V.take k) (valN V x) := ⟨_, rfl⟩
      have hn1 := valN_small (V := V) HSM.out v
      obtain ⟨n, hn⟩ : ∃ n, n = valN V x v := ⟨_, rfl⟩
      rw [← hs] at HT hbd ⊢
      rw [← hn] at HT C hn1
      have hw : IntKind.i64.wrap (s + max n 0) = s + max n 0 := IntWalk.i64_in _ (by omega)
      clear hv' hs hn hbd
      go_wp2_with (go_at_call 15; refine C.out.mono ?_; rintro e w1 ⟨rfl, hE1⟩; have HE1 := Lib.hid (ext_trans HE.out hE1); clear hE1)
      go_roundw
      case rel => exact ⟨k + 1, by omega, by go_num, by rw [HT.out], HE1.out⟩
      case measure => simp [intOf]; omega
    · obtain rfl : k = V.length := by omega
      rw [List.take_length]
      obtain ⟨s, hs⟩ : ∃ s, s = sumV V (valN V x) := ⟨_, rfl⟩
      have hmx := (ext_block HEW.out (block_lt HM.out)).trans HM.out
      have qm : wo.cell? ⟨bm, 0, none⟩ = some (.int .u8 (t : Int)) := block_cell hmx 0
      have lm := block_lt hmx
      have HOK := Lib.hid (show okS V t x = decide (s ≤ (t : Int) % 9) by rw [hs]; rfl)
      rw [← hs]
      clear hs hbd hmx
      by_cases hle : s ≤ (t : Int) % 9
      · have HV := Lib.hid (show okS V t x = true by rw [HOK.out]; simpa using hle)
        go_wp2
        refine bodyPost_ret (results_tmp rfl _ _ _) rfl ?_
        exact ⟨by rw [HV.out]; rfl, HEW.out⟩
      · have HV := Lib.hid (show okS V t x = false by rw [HOK.out]; simpa using hle)
        go_wp2
        refine bodyPost_ret (results_tmp rfl _ _ _) rfl ?_
        exact ⟨by rw [HV.out]; rfl, HEW.out⟩

/-- the document's way -/
def leftD (t : Nat) (N : List (List VarN)) (r : List VarN) : List (List VarN) := (joinQ [r] N).filter fun s => decide (sumR s ≤ (t : Int) % 9)
def leftE (t : Nat) (N : List (List VarN)) (r : List VarN) : List (List VarN) := if (leftD t N r).length = 0 then [r] else leftD t N r
def leftQ (t : Nat) (M N : List (List VarN)) : List (List VarN) := M.flatMap (leftE t N)
theorem joinQ_one (r : List VarN) (N : List (List VarN)) : joinQ [r] N = (N.filter (compD r)).map (joinD r) := by simp [joinQ]
theorem okR_wide {U V : List ByteArray} {r : List VarN} (h : okR U r) : okR (setS (U ++ V)) r := ⟨h.1, fun u hu => mem_setS.2 (List.mem_append.2 (.inl (h.2 u hu)))⟩
theorem lone_same {U V : List ByteArray} {r : List VarN} (h : okR U r) : rowOf (setS (U ++ V)) (valN U (rowD U r)) = rowD (setS (U ++ V)) r := by
  refine rowD_of h.1 (fun v _ => ?_)
  rw [valN_rowD h]
  have := getR_lo h.1 v
  omega
theorem ok_same {V : List ByteArray} (hV : RiseS V) {r : List VarN} (h : okR V r) (t : Nat) : okS V t (rowD V r) = decide (sumR r ≤ (t : Int) % 9) := by
  unfold okS
  have : sumV V (valN V (rowD V r)) = sumV V (getR r) := by
    unfold sumV
    congr 1
    refine List.map_congr_left (fun v _ => ?_)
    rw [valN_rowD h]
  rw [this, sum_same (rise_nodup hV) h]
theorem leftD_len (t : Nat) (N : List (List VarN)) (r : List VarN) : (leftD t N r).length ≤ N.length := by
  unfold leftD
  refine Nat.le_trans (List.length_filter_le ..) ?_
  have := joinQ_len [r] N
  simpa using this
theorem left_same {U V : List ByteArray} {M N : List (List VarN)} (t : Nat) (hM : ∀ r ∈ M, okR U r) (hN : ∀ s ∈ N, okR V s) : leftN (okS (setS (U ++ V)) t) U V (rowsD U M) (rowsD V N) = rowsD (setS (U ++ V)) (leftQ t M N) := by
  unfold leftN leftQ rowsD
  rw [List.flatMap_map, List.map_flatMap, List.flatMap_def, List.flatMap_def]
  congr 1
  refine List.map_congr_left (fun r hr => ?_)
  have hj : leftJ (okS (setS (U ++ V)) t) U V (N.map (rowD V)) (rowD U r) = (leftD t N r).map (rowD (setS (U ++ V))) := by
    have hjm : ((N.map (rowD V)).filter (compB U V (rowD U r))).map (joinR U V (rowD U r)) = (joinQ [r] N).map (rowD (setS (U ++ V))) := by
      rw [joinQ_one, List.filter_map, List.map_map, List.map_map]
      have e : N.filter (compB U V (rowD U r) ∘ rowD V) = N.filter (compD r) := List.filter_congr (fun s hs => comp_same (hM r hr) (hN s hs))
      rw [e]
      refine List.map_congr_left (fun s hs => ?_)
      obtain ⟨h1, h2⟩ := List.mem_filter.1 hs
      exact join_same (hM r hr) (hN s h1) h2
    unfold leftJ leftD
    rw [hjm, List.filter_map]
    congr 1
    refine List.filter_congr (fun s hs => ?_)
    rw [joinQ_one] at hs
    obtain ⟨s0, hs0, rfl⟩ := List.mem_map.1 hs
    rw [Function.comp_apply, ok_same (rise_setS _) (okR_join (hM r hr) (hN s0 (List.mem_filter.1 hs0).1))]
  unfold leftG leftE
  rw [hj, List.length_map]
  split
  · rw [lone_same (hM r hr)]; rfl
  · rfl
theorem leftQ_ok {U V : List ByteArray} {M N : List (List VarN)} (t : Nat) (hM : ∀ r ∈ M, okR U r) (hN : ∀ s ∈ N, okR V s) : ∀ r ∈ leftQ t M N, okR (setS (U ++ V)) r := by
  intro x hx
  obtain ⟨r, hr, hx⟩ := List.mem_flatMap.1 hx
  unfold leftE at hx
  split at hx
  · rw [List.mem_singleton.1 hx]; exact okR_wide (hM r hr)
  · have h1 := (List.mem_filter.1 hx).1
    rw [joinQ_one] at h1
    obtain ⟨s, hs, rfl⟩ := List.mem_map.1 h1
    exact okR_join (hM r hr) (hN s (List.mem_filter.1 hs).1)
theorem leftQ_take {t : Nat} {M N : List (List VarN)} {j : Nat} {r : List VarN} (hr : M[j]? = some r) : leftQ t (M.take (j + 1)) N = leftQ t (M.take j) N ++ leftE t N r := by
  unfold leftQ
  rw [List.take_add_one, hr, Option.toList_some, List.flatMap_append]
  simp
end Go.Proofs.Ytniggdaakiofeaa
