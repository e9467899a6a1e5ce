/- Less: lines but others, by counting. -/
import Derived.Test.YteccpinilpkmiaaEf
import Derived.Test.YteccpinilpkmiaaGm
namespace Go.Proofs.Yteccpinilpkmiaa
open Go Go.RowKit Go.Sort Go.Maps Go.WideMaps
set_option maxHeartbeats 800000

/-- how often -/
def cnt (L : List ByteArray) (s : ByteArray) : Nat := L.countP (fun x => decide (x = s))
theorem cnt_nil (s : ByteArray) : cnt [] s = 0 := rfl
theorem cnt_snoc (L : List ByteArray) (x s : ByteArray) : cnt (L ++ [x]) s = cnt L s + if x = s then 1 else 0 := by
  unfold cnt
  rw [List.countP_append, List.countP_singleton]
  simp only [decide_eq_true_eq]
theorem cnt_le (L : List ByteArray) (s : ByteArray) : cnt L s ≤ L.length := List.countP_le_length
theorem take_snoc {L : List ByteArray} {j : Nat} {x : ByteArray} (hx : L[j]? = some x) : L.take (j + 1) = L.take j ++ [x] := by
  rw [List.take_add_one, hx]; rfl
/-- those that are left, in their order -/
def stepE (M : List ByteArray) (st : List ByteArray × List ByteArray) (x : ByteArray) : List ByteArray × List ByteArray := (st.1 ++ [x], if cnt M x ≤ cnt st.1 x then st.2 ++ [x] else st.2)
def outE (M L : List ByteArray) : List ByteArray := (L.foldl (stepE M) ([], [])).2
theorem step_fst (M : List ByteArray) : ∀ (L pre out : List ByteArray), (L.foldl (stepE M) (pre, out)).1 = pre ++ L
  | [], pre, out => by simp
  | x :: L, pre, out => by
    rw [List.foldl_cons]
    have := step_fst M L (pre ++ [x]) (if cnt M x ≤ cnt pre x then out ++ [x] else out)
    rw [show stepE M (pre, out) x = (pre ++ [x], if cnt M x ≤ cnt pre x then out ++ [x] else out) from rfl, this]
    simp
theorem stepE_snd (M : List ByteArray) (st : List ByteArray × List ByteArray) (x : ByteArray) : (stepE M st x).2 = if cnt M x ≤ cnt st.1 x then st.2 ++ [x] else st.2 := rfl
theorem outE_snoc (M L : List ByteArray) (x : ByteArray) : outE M (L ++ [x]) = if cnt M x ≤ cnt L x then outE M L ++ [x] else outE M L := by
  unfold outE
  rw [List.foldl_append, List.foldl_cons, List.foldl_nil, stepE_snd, step_fst, List.nil_append]
theorem outE_len (M : List ByteArray) (L : List ByteArray) : (outE M L).length ≤ L.length := by
  suffices h : ∀ (L pre out : List ByteArray), (L.foldl (stepE M) (pre, out)).2.length ≤ out.length + L.length by
    have := h L [] []
    simpa [outE] using this
  intro L
  induction L with
  | nil => intro pre out; simp
  | cons x L ih =>
    intro pre out
    have e : stepE M (pre, out) x = (pre ++ [x], if cnt M x ≤ cnt pre x then out ++ [x] else out) := rfl
    have h1 := ih (pre ++ [x]) (if cnt M x ≤ cnt pre x then out ++ [x] else out)
    have h2 : (if cnt M x ≤ cnt pre x then out ++ [x] else out).length ≤ out.length + 1 := by split <;> simp
    rw [List.foldl_cons, e, List.length_cons]
    omega
theorem zero3 (w : World) : (zeroValue 3).run Try.prog w = .ok (.int .i64 0) w := by kernel_rfl
theorem ext_grown_map {W w w' : World} {b : Nat} (hE : Ext W w) (hg : w.grownBy w' (some b)) (hb : W.heap.size ≤ b) : Ext W w' :=
  Below.grown hE hg (ext_size hE) (fun g e => by cases e; exact hb)
theorem rowF_grown_map {H b : Nat} {v : Value} {L : List ByteArray} {w w' : World} {N : Nat} {f : ByteArray → Int} (h : rowF elS H L v w) (hm : MapI Try.prog 9 3 b N f w) (hg : w.grownBy w' (some b)) : rowF elS H L v w' :=
  ⟨rowE_upd h.1 (upd_grown hg) (fun g hg2 e => by
    obtain ⟨_, cur, h2⟩ := rowE_block h.1 hg2
    exact mapI_off hm h2 (Option.some.inj e).symm), h.2⟩

theorem mapI_grown {H b N : Nat} {v : Value} {L : List ByteArray} {w w' : World} {f : ByteArray → Int} (hm : MapI Try.prog 9 3 b N f w) (h : rowF elS H L v w) (hg : w.grownBy w' v.ownBlock) : MapI Try.prog 9 3 b N f w' :=
  mapI_block hm (hg.block b (mapI_lt hm) (fun e => by
    obtain ⟨_, cur, h2⟩ := rowE_block h.1 e.symm
    exact mapI_off hm h2 rfl))

set_option maxRecDepth 100000 in
theorem less_any (v1 v2 : Value) (L M : List ByteArray) (w : World) (h1 : RdS w v1 L) (h2 : RdS w v2 M) (hl : L.length ≤ 100000) (hm : M.length ≤ 100000) (hs1 : ∀ x ∈ L, x.size ≤ maxLen) (hs2 : ∀ x ∈ M, x.size ≤ maxLen) :
    Calls Try.prog 14 #[v1, v2] w fun e w' => ∃ lv', e = .returned lv' ∧ rowF elS w.heap.size (sortS (outE M L)) lv' w' ∧ Ext w w' := by
  obtain ⟨A, c, rfl, _, hA⟩ := h1
  obtain ⟨B, d, rfl, _, hB⟩ := h2
  have HA := Lib.hid hA
  have HB := Lib.hid hB
  have HS1 := Lib.hid hs1
  have HS2 := Lib.hid hs2
  clear hA hB hs1 hs2
  have hmm := @run_makeMap Try.prog
  go_enter Try.func14, Try.ntmps14
  go_wp2
  clear hmm
  go_loopw [14] (fun x wr => ∃ j : Nat, j ≤ M.length ∧ x = .int .i64 j ∧ MapI Try.prog 9 3 w.heap.size j (fun s => (cnt (M.take j) s : Int)) wr ∧ Ext w wr) (fun x _ => M.length - (intOf x).toNat)
  case atStart => exact ⟨0, by omega, rfl, mapI_congr (mapI_made w) (fun s => by simp [cnt_nil]) (Nat.le_refl _), ext_alloc (ext_refl _) _⟩
  case round =>
    obtain ⟨j, hj, rfl, hmap, hE⟩ := hrel
    have HM := Lib.hid hmap
    have HE := Lib.hid hE
    clear hmap hE
    by_cases hlt : j < M.length
    · have hji : (j : Int) < (M.length : Int) := by omega
      have hj0 : (0 : Int) ≤ (j : Int) := by omega
      obtain ⟨x, hx⟩ : ∃ x, M[j]? = some x := ⟨_, List.getElem?_eq_getElem hlt⟩
      obtain ⟨b, off, hBe, hb, hca⟩ := HB.out (fun e => by rw [e] at hx; simp at hx)
      subst hBe
      have q0 := (ext_cell HE.out _ _ hb).trans (hca j x hx)
      have lb := ext_lt HE.out hb
      have HXS := Lib.hid (HS2.out x (List.mem_of_getElem? hx))
      have HX := Lib.hid hx
      have hcl := cnt_le (M.take j) x
      rw [List.length_take] at hcl
      obtain ⟨cx, hcx⟩ : ∃ cx, cnt (M.take j) x = cx := ⟨_, rfl⟩
      rw [hcx] at hcl
      have HCX := Lib.hid hcx
      clear hx hca hb hcx
      have hc0 : (0 : Int) ≤ (cx : Int) := by omega
      have hc1 : (cx : Int) ≤ 100000 := by omega
      go_wp2_with (first
        | (at_lookup; refine wpList_lookup_I rfl (.tmp 18) (.tmp 19) 47 rfl Try.underlying9 Try.underlying47 Try.underlying3 (zero3 _) rfl HM.out x rfl HXS.out (cx : Int) (by rw [HCX.out]) ?_)
        | (at_mapUpdate; refine wpList_update_I rfl (.tmp 18) (.tmp 19) (.tmp 21) 47 rfl Try.underlying9 Try.underlying47 Try.underlying3 rfl HM.out (by unfold maxLen; omega) x rfl HXS.out ((cx : Int) + 1) rfl (WalkArith.wf_i64 (by omega)) ?_; intro w2 hm2 hg2; have HM2 := Lib.hid hm2; have HG2 := Lib.hid hg2; clear hm2 hg2))
      go_roundw
      case rel => exact ⟨j + 1, by omega, by go_num, mapI_congr HM2.out (fun s => by
          rw [take_snoc HX.out, cnt_snoc]
          by_cases e : s = x
          · subst e; rw [if_pos rfl, if_pos rfl, HCX.out]; push_cast; rfl
          · rw [if_neg e, if_neg (fun h => e h.symm)]; push_cast; simp) (Nat.le_refl _), ext_grown_map HE.out HG2.out (Nat.le_refl _)⟩
      case measure => simp [intOf]; omega
    · obtain rfl : j = M.length := by omega
      have hm0 := HM.out
      rw [List.take_length] at hm0
      have HM0 := Lib.hid hm0
      clear hm0
      go_wp2
      go_loopw [25, 8] (fun x y wr => ∃ (j : Nat) (O : Option Addr) (oc : Nat) (out : List ByteArray), j ≤ L.length ∧ x = .int .i64 j ∧ out = outE M (L.take j) ∧ y = .slice O out.length oc ∧ rowF elS w.heap.size out (.slice O out.length oc) wr ∧ MapI Try.prog 9 3 w.heap.size (M.length + j) (fun s => (cnt M s : Int) - cnt (L.take j) s) wr ∧ Ext w wr) (fun x _ _ => L.length - (intOf x).toNat)
      case atStart => exact ⟨0, none, 0, [], by omega, rfl, rfl, rfl, rowF_nil _ _, mapI_congr HM0.out (fun s => by simp [cnt_nil]) (Nat.le_refl _), HE.out⟩
      case round =>
        rename World => wq
        obtain ⟨j, O, oc, out, hj, rfl, hout, rfl, hrow, hmap, hE2⟩ := hrel
        have HQ := Lib.hid hmap
        have HEQ := Lib.hid hE2
        have HROW := Lib.hid hrow
        have hol : out.length ≤ j := by
          rw [hout]
          have := outE_len M (L.take j)
          rw [List.length_take] at this
          omega
        have HOUT := Lib.hid hout
        clear hmap hE2 hrow hout
        by_cases hlt2 : j < L.length
        · have hji : (j : Int) < (L.length : Int) := by omega
          have hj0 : (0 : Int) ≤ (j : Int) := by omega
          obtain ⟨x, hx⟩ : ∃ x, L[j]? = some x := ⟨_, List.getElem?_eq_getElem hlt2⟩
          obtain ⟨b, off, hAe, hb, hca⟩ := HA.out (fun e => by rw [e] at hx; simp at hx)
          subst hAe
          have q0 := (ext_cell HEQ.out _ _ hb).trans (hca j x hx)
          have lb := ext_lt HEQ.out hb
          have HXS := Lib.hid (HS1.out x (List.mem_of_getElem? hx))
          have HX := Lib.hid hx
          have hcl := cnt_le (L.take j) x
          rw [List.length_take] at hcl
          have hcm := cnt_le M x
          obtain ⟨cz, hcz⟩ : ∃ cz : Int, (cnt M x : Int) - cnt (L.take j) x = cz := ⟨_, rfl⟩
          have hc0 : (-100000 : Int) ≤ cz := by omega
          have hc1 : cz ≤ 100000 := by omega
          have HCZ := Lib.hid hcz
          clear hx hca hb hcz hcl hcm
          have hstep : ∀ s, (if s = x then cz - 1 else (cnt M s : Int) - cnt (L.take j) s) = (cnt M s : Int) - cnt (L.take (j + 1)) s := fun s => by
            rw [take_snoc HX.out, cnt_snoc]
            by_cases e : s = x
            · subst e; rw [if_pos rfl, if_pos rfl, ← HCZ.out]; push_cast; omega
            · rw [if_neg e, if_neg (fun h => e h.symm)]; push_cast; simp
          have HST := Lib.hid hstep
          clear hstep
          by_cases hneg : cz ≤ 0
          · have hn1 : cz - 1 < 0 := by omega
            have hn2 : cz < 1 := by omega
            go_wp2_with (first
              | (at_lookup; refine wpList_lookup_I rfl (.tmp 29) (.tmp 30) 47 rfl Try.underlying9 Try.underlying47 Try.underlying3 (zero3 _) rfl HQ.out x rfl HXS.out cz HCZ.out ?_)
              | (at_mapUpdate; refine wpList_update_I rfl (.tmp 29) (.tmp 30) (.tmp 32) 47 rfl Try.underlying9 Try.underlying47 Try.underlying3 rfl HQ.out (by unfold maxLen; omega) x rfl HXS.out (cz - 1) rfl (WalkArith.wf_i64 (by omega)) ?_; intro w2 hm2 hg2; have HM2 := Lib.hid hm2; have HG2 := Lib.hid hg2; clear hm2 hg2)
              | (at_lookup; refine wpList_lookup_I rfl (.tmp 33) (.tmp 34) 47 rfl Try.underlying9 Try.underlying47 Try.underlying3 (zero3 _) rfl HM2.out x rfl HXS.out (cz - 1) (by simp) ?_)
              | (at_builtin; refine halt_here ?_))
            refine go_on ?_
            have HR2 := Lib.hid (rowF_grown_map HROW.out HQ.out HG2.out)
            have HE2 := Lib.hid (ext_grown_map HEQ.out HG2.out (Nat.le_refl _))
            refine wpList_append rfl (.tmp 37) (.tmp 39) rfl _ _ rfl rfl _ (append_onto tpS _ w.heap.size (.slice O out.length oc) (.slice (some ⟨w2.heap.size, 0, none⟩) 1 1) out [x] (w2.alloc (.cells #[.string x] 9)) (rowF_ext _ _ _ (ext_alloc (ext_refl _) _) HR2.out) (srcOf_one ⟨w2.heap.size, rfl, Nat.le_refl _, heap_alloc_new w2 _⟩) (by simp; omega) (by rw [World.size_alloc]; have := ext_size HE2.out; omega)) ?_
            rintro v7 w7 ⟨hR7, hg7⟩
            obtain ⟨O7, c7, hv7⟩ := rowE_form hR7.1
            subst hv7
            have HR7 := Lib.hid hR7
            have HM7 := Lib.hid (mapI_grown (mapI_ext HM2.out (ext_alloc (ext_refl _) (.cells #[.string x] 9))) (rowF_ext _ _ _ (ext_alloc (ext_refl _) _) HR2.out) hg7)
            have HE7 : Hid (Ext w w7) := Lib.hid (ext_grown (ext_trans HE2.out (ext_alloc (ext_refl _) _)) hg7 HR2.out.2 (Nat.le_refl _))
            clear hR7 hg7
            go_wp2
            go_roundw
            case rel => exact ⟨j + 1, O7, c7, out ++ [x], by omega, by go_num, by rw [take_snoc HX.out, outE_snoc, if_pos (by have := HCZ.out; omega), ← HOUT.out], by rw [List.length_append]; rfl, HR7.out, mapI_congr HM7.out HST.out (by omega), HE7.out⟩
            case measure => simp [intOf]; omega
          · have hn1 : ¬ cz - 1 < 0 := by omega
            have hn2 : ¬ cz < 1 := by omega
            have hn3 : 1 ≤ cz := by omega
            go_wp2_with (first
              | (at_lookup; refine wpList_lookup_I rfl (.tmp 29) (.tmp 30) 47 rfl Try.underlying9 Try.underlying47 Try.underlying3 (zero3 _) rfl HQ.out x rfl HXS.out cz HCZ.out ?_)
              | (at_mapUpdate; refine wpList_update_I rfl (.tmp 29) (.tmp 30) (.tmp 32) 47 rfl Try.underlying9 Try.underlying47 Try.underlying3 rfl HQ.out (by unfold maxLen; omega) x rfl HXS.out (cz - 1) rfl (WalkArith.wf_i64 (by omega)) ?_; intro w2 hm2 hg2; have HM2 := Lib.hid hm2; have HG2 := Lib.hid hg2; clear hm2 hg2)
              | (at_lookup; refine wpList_lookup_I rfl (.tmp 33) (.tmp 34) 47 rfl Try.underlying9 Try.underlying47 Try.underlying3 (zero3 _) rfl HM2.out x rfl HXS.out (cz - 1) (by simp) ?_))
            go_roundw
            case rel => exact ⟨j + 1, O, oc, out, by omega, by go_num, by rw [take_snoc HX.out, outE_snoc, if_neg (by have := HCZ.out; omega), ← HOUT.out], rfl, rowF_grown_map HROW.out HQ.out HG2.out, mapI_congr HM2.out HST.out (by omega), ext_grown_map HEQ.out HG2.out (Nat.le_refl _)⟩
            case measure => simp [intOf]; omega
        · obtain rfl : j = L.length := by omega
          go_wp2_with (go_at_call 22; refine (sort_any w.heap.size _ out _ HROW.out (by omega)).mono ?_; rintro e w8 ⟨rfl, hr8, hu8⟩; have HR8 := Lib.hid hr8; have HU8 := Lib.hid hu8; clear hr8 hu8)
          go_ret
          refine ⟨_, rfl, ?_, ?_⟩
          · have := HOUT.out
            rw [List.take_length] at this
            rw [← this]
            exact HR8.out
          · exact ext_of_upd (upd_trans (upd_of_ext HEQ.out) HU8.out (fun i hi e => by have := HROW.out.2 i e; omega))
end Go.Proofs.Yteccpinilpkmiaa
