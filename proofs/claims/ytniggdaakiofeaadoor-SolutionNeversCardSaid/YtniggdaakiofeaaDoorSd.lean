/- Rows of strings: cloned, sorted, compacted; vars; where one stands. -/
import Derived.Sort.OwnSorted
import Derived.Lib.OwnBridge
import Derived.Test.YtniggdaakiofeaaDoorSh
import Derived.Test.YtniggdaakiofeaaDoorSb
namespace Go.Proofs.YtniggdaakiofeaaDoor
open Go Go.RowKit Go.Sort
set_option maxHeartbeats 800000

theorem ext_upd {fp : Nat → Prop} {w w1 w2 : World} (h : Ext w w1) (k : Upd fp w1 w2) (hf : ∀ b, fp b → w.heap.size ≤ b) : Ext w w2 :=
  ext_of_upd (upd_trans (upd_of_ext (fp := fun _ => False) h) k (fun i hi hi2 => absurd (hf i hi2) (by omega)))
theorem heap_two (w : World) (o0 o1 : Obj) : ((w.alloc o0).alloc o1).heap[w.heap.size]? = some o0 ∧ ((w.alloc o0).alloc o1).heap[w.heap.size + 1]? = some o1 := by
  have h := ext_block (ext_alloc (ext_refl (w.alloc o0)) o1) (k := w.heap.size) (by simp)
  refine ⟨h.trans (heap_alloc_new w o0), ?_⟩
  have := heap_alloc_new (w.alloc o0) o1
  simpa using this
theorem ext_drewN (w : World) (q : Nat) : Ext w (w.drewN q) := ext_of_upd ⟨rfl, rfl, rfl, Nat.le_refl _, fun _ _ _ => rfl⟩
theorem flatS (L : List ByteArray) : flatE elS L = (L.map toL).map encStr := by
  induction L with
  | nil => rfl
  | cons x L ih => rw [flatE_cons, ih]; rfl
theorem flatS' (L : List ByteArray) : flatE elS L = L.map Value.string := by
  induction L with
  | nil => rfl
  | cons x L ih => rw [flatE_cons, ih]; rfl
theorem stS_getD {L : List ByteArray} {j : Nat} (hj : j < L.length) : L[j]? = some (L.getD j ByteArray.empty) := by simp [List.getD, hj]
theorem cloneS_any (v : Value) (L : List ByteArray) (w : World) (h : RdS w v L) (hm : L.length ≤ 1000000) :
    Calls Tryd.prog 60 #[v] w fun e w' => ∃ v', e = .returned v' ∧ rowF elS w.heap.size L v' w' ∧ Ext w w' := by
  obtain ⟨A, c, rfl, hc, hA⟩ := h
  by_cases hne : L = []
  · subst hne
    cases A with
    | none =>
      refine (Tryd.slices_Clone_string_nil 0 c w).mono ?_
      rintro e w' ⟨rfl, rfl⟩
      exact ⟨_, rfl, rowF_nil _ _, ext_refl _⟩
    | some a =>
      refine (Tryd.slices_Clone_string_zero a c w).mono ?_
      rintro e w' ⟨v', rfl, h1, h2, h3⟩
      exact ⟨v', rfl, row_base (E := elS) h1 rfl rfl (Nat.le_refl _), h3⟩
  · obtain ⟨b, off, rfl, hb, hcell⟩ := hA hne
    refine (Tryd.slices_Clone_string b off L.length c L w (Nat.le_refl _) (by omega) (fun j hj => hcell j _ (stS_getD hj))).mono ?_
    rintro e w' ⟨v', rfl, h1, h2, h3⟩
    exact ⟨v', rfl, row_base (E := elS) h1 rfl (by rw [List.take_length, flatS']) (Nat.le_refl _), h3⟩
theorem upd_putRow {w : World} {g n : Nat} {d : Array (List UInt8)} {os : Array Obj} : Upd (fun b => b = g) w (grow (putRow encStr (Sort.ahead w n) g 0 d) os) := by
  refine ⟨rfl, rfl, rfl, by simp [grow, putRow, mapBlock, Sort.ahead], fun k hk hn => ?_⟩
  have h2 : k ≠ g := hn
  rw [heap_grow_old _ _ (by simpa using hk)]
  simp only [putRow, mapBlock, Sort.ahead, Array.getElem?_modify]
  rw [if_neg (fun e => h2 e.symm)]
theorem holds_row {w : World} {g cap : Nat} {cur : Array Value} {L : List ByteArray} (h : rowE elS w (.slice (some ⟨g, 0, none⟩) L.length cap) L) (hg : w.heap[g]? = some (.cells cur elS.ty (0, 0))) : Holds encStr w g 0 (L.map toL).toArray := by
  intro j hj
  have hj' : j < L.length := by simpa using hj
  have hx : L[j]? = some L[j] := List.getElem?_eq_getElem hj'
  have hc := rowS_cell h hx
  rw [Nat.zero_add]
  refine ⟨?_, block_frozen hg j⟩
  rw [hc]
  simp [getElem!_pos, hj', toL]
theorem sort_any (H : Nat) (v : Value) (L : List ByteArray) (w : World) (h : rowF elS H L v w) (hm : L.length ≤ 1000000) :
    Calls Tryd.prog 74 #[v] w fun e w' => e = .returned (.tuple #[]) ∧ rowF elS H (sortS L) v w' ∧ Upd (fun b => v.ownBlock = some b) w w' := by
  rcases rowE_cases h.1 with ⟨rfl, rfl⟩ | ⟨g, cap, cur, rfl, hg, h1, h2, h3, h4⟩
  · refine (Tryd.slices_Sort_string_none none 0 w).mono ?_
    rintro e w' ⟨rfl, rfl⟩
    exact ⟨rfl, (by have : sortS [] = [] := by simp [sortS]
                    rw [this]; exact rowF_nil _ _), upd_refl⟩
  · have hl : (L.map toL).length = L.length := by simp
    have hs := Tryd.slices_Sort_string g 0 cap (L.map toL) w (holds_row h.1 hg) (block_lt hg) (by rw [hl]; omega)
    rw [hl] at hs
    refine hs.mono ?_
    rintro e w' ⟨rfl, n, os, rfl⟩
    have hlen : ((L.map toL).mergeSort fun x y => decide (x ≤ y)).length = (L.map toL).length := by simp
    have hown := ownsRow_sorted (n := n) (os := os) (base := H) hlen (h.2 g rfl) hg (by rw [hl]; exact h1) h2 (by rw [h3]; rfl)
    refine ⟨rfl, ?_, upd_mono upd_putRow (fun b _ e => by rw [e]; rfl)⟩
    rw [hl] at hown
    exact row_base hown (sortS_length L).symm (by rw [flatS, sortS_toL]) (Nat.le_refl _)
theorem cpt_length (d : List (List UInt8)) : (Lib.compact d).length ≤ d.length := by
  unfold Lib.compact Lib.compactUpTo
  rw [List.length_map]
  refine Nat.le_trans (List.length_filter_le ..) ?_
  simp
theorem compact_any (H : Nat) (v : Value) (L : List ByteArray) (w : World) (h : rowF elS H L v w) (hm : L.length ≤ 1000000) :
    Calls Tryd.prog 75 #[v] w fun e w' => ∃ v', e = .returned v' ∧ rowF elS H (cptS (L.map toL)) v' w' ∧ Upd (fun b => v.ownBlock = some b) w w' := by
  rcases rowE_cases h.1 with ⟨rfl, rfl⟩ | ⟨g, cap, cur, rfl, hg, h1, h2, h3, h4⟩
  · refine (Tryd.slices_Compact_string_empty none 0 w).mono ?_
    rintro e w' ⟨rfl, rfl⟩
    exact ⟨_, rfl, rowF_nil _ _, upd_refl⟩
  · have hl : (L.map toL).length = L.length := by simp
    have hs := Tryd.slices_Compact_string g 0 cap (L.map toL) w (holds_row h.1 hg) (by rw [hl]; omega) (by rw [hl]; exact h1)
    rw [hl] at hs
    refine hs.mono ?_
    rintro e w' ⟨rfl, q, rfl⟩
    have hcl := cpt_length (L.map toL)
    rw [hl] at hcl
    obtain ⟨ts, hts⟩ : ∃ ts, ts = Lib.compact (L.map toL) ++ List.replicate (L.length - (Lib.compact (L.map toL)).length) [] := ⟨_, rfl⟩
    have hlen : ts.length = L.length := by rw [hts, List.length_append, List.length_replicate]; omega
    have hgr : putRow encStr (Sort.ahead w q) g 0 ts.toArray = grow (putRow encStr (Sort.ahead w q) g 0 ts.toArray) #[] := by
      have : ∀ x : World, x = grow x #[] := fun x => by cases x; simp [grow]
      exact this _
    rw [← hts, hgr]
    have hown := ownsRow_sorted (n := q) (os := #[]) (base := H) (ss := ts) (ts := ts) rfl (h.2 g rfl) hg (by rw [hlen]; exact h1) h2 (by rw [h3]; rfl)
    refine ⟨_, rfl, ?_, upd_mono upd_putRow (fun b _ e => by rw [e]; rfl)⟩
    rcases hown.2 with ⟨e1, _⟩ | ⟨g', cap', cur', e1, e2, e3, e4, e5, e6, e7⟩
    · cases e1
    · simp only [Value.slice.injEq, Option.some.injEq, Addr.mk.injEq, and_true] at e1
      obtain ⟨rfl, -, rfl⟩ := e1
      refine row_base (E := elS) (base := H) (n := (Lib.compact (L.map toL)).length) (xs := (Lib.compact (L.map toL)).map encStr) ⟨by simp [elS], .inr ⟨g, cap, cur', rfl, e2, e3, by omega, e5, e6, ?_⟩⟩ (by simp [cptS, Lib.compact]) ?_ (Nat.le_refl _)
      · have e8 := congrArg (List.take (Lib.compact (L.map toL)).length) e7
        rw [List.take_take, Nat.min_eq_left (by omega)] at e8
        simp only [elS, Nat.mul_one]
        rw [e8, hts, List.map_append, List.take_append_of_le_length (by simp), ← List.map_take, List.take_length]
      · rw [flatS]
        congr 1
        unfold cptS
        rw [List.map_map]
        exact (List.map_id _).symm
theorem vars_any (v : Value) (L : List ByteArray) (w : World) (h : RdS w v L) (hm : L.length ≤ 1000000) :
    Calls Tryd.prog 42 #[v] w fun e w' => ∃ v', e = .returned v' ∧ rowF elS w.heap.size (setS L) v' w' ∧ Ext w w' := by
  have H0 := Lib.hid (cloneS_any v L w h hm)
  obtain ⟨A, c, rfl⟩ := rdS_form h
  have HL := Lib.hid hm
  clear h hm
  go_enter Tryd.func42, Tryd.ntmps42
  go_wp2_with (first
    | (go_at_call 60; refine H0.out.mono ?_; rintro e w1 ⟨v1, rfl, hr1, hE1⟩; have HR1 := Lib.hid hr1; have HE1 := Lib.hid hE1; clear hr1 hE1)
    | (go_at_call 74; refine (sort_any _ _ _ _ HR1.out HL.out).mono ?_; rintro e w2 ⟨rfl, hr2, hU2⟩; have HR2 := Lib.hid hr2; have HU2 := Lib.hid hU2; clear hr2 hU2)
    | (go_at_call 75; refine (compact_any _ _ _ _ HR2.out (by rw [sortS_length]; exact HL.out)).mono ?_; rintro e w3 ⟨v3, rfl, hr3, hU3⟩; have HR3 := Lib.hid hr3; have HU3 := Lib.hid hU3; clear hr3 hU3))
  refine bodyPost_ret (results_tmp rfl _ _ _) rfl ?_
  refine ⟨_, rfl, by rw [← set_is]; exact HR3.out, ext_upd (ext_upd HE1.out HU2.out HR1.out.2) HU3.out HR2.out.2⟩

theorem idx_neg (L : List ByteArray) (v : ByteArray) (hv : v ∈ L) : Lib.idxOfS L v = (idxS L v : Nat) := by
  have h1 := idxS_get hv
  have hlt := idxS_lt.2 hv
  have := Lib.idxOfS_hit L L.length (idxS L v) v hlt (Nat.le_refl _) (by rw [List.getD_eq_getElem?_getD, h1]; rfl) (fun j hj e => ?_)
  · rwa [List.take_length] at this
  · have : L[j]? = some v := by rw [stS_getD (by omega), e]
    have h3 : ∀ (M : List ByteArray) (j : Nat), M[j]? = some v → idxS M v ≤ j := by
      intro M
      induction M with
      | nil => intro j h; simp at h
      | cons u r ih =>
        intro j h
        rw [idxS]
        split
        · omega
        · rename_i hu
          cases j with
          | zero => simp at h; exact absurd h hu
          | succ j => have := ih j (by simpa using h); omega
    have := h3 L j this
    omega
theorem index_any (sv : Value) (L : List ByteArray) (x : ByteArray) (w : World) (h : RdS w sv L) (hx : x ∈ L) (hm : L.length ≤ 1000000) :
    Calls Tryd.prog 57 #[sv, .string x] w fun e w' => e = .returned (.int .i64 (idxS L x : Nat)) ∧ w' = w := by
  obtain ⟨A, c, rfl, hc, hA⟩ := h
  have hne : L ≠ [] := fun e => by rw [e] at hx; cases hx
  obtain ⟨b, off, rfl, hb, hcell⟩ := hA hne
  refine (Tryd.slices_Index_string b off L.length c L x w (Nat.le_refl _) (by omega) (fun j hj => hcell j _ (stS_getD hj))).mono ?_
  rintro e w' ⟨rfl, rfl⟩
  exact ⟨by rw [List.take_length, idx_neg L x hx], rfl⟩
def posS (V : List ByteArray) (x : ByteArray) : Nat := (V.takeWhile (ltS · x)).length
theorem posS_cut (V : List ByteArray) (x : ByteArray) : V.take (posS V x) = V.takeWhile (ltS · x) ∧ V.drop (posS V x) = V.dropWhile (ltS · x) := by
  have hs := List.takeWhile_append_dropWhile (p := (ltS · x)) (l := V)
  unfold posS
  constructor
  · have := List.take_left (l₁ := V.takeWhile (ltS · x)) (l₂ := V.dropWhile (ltS · x))
    rwa [hs] at this
  · have := List.drop_left (l₁ := V.takeWhile (ltS · x)) (l₂ := V.dropWhile (ltS · x))
    rwa [hs] at this
theorem bs_spec {V : List ByteArray} (hV : RiseS V) (x : ByteArray) : Lib.bsGo (fun t => Op.bytesLess ((V[t]?).getD x).toList x.toList) V.length 0 V.length = posS V x := by
  obtain ⟨c1, c2⟩ := posS_cut V x
  have hle : posS V x ≤ V.length := by
    have := congrArg List.length (List.takeWhile_append_dropWhile (p := (ltS · x)) (l := V))
    rw [List.length_append] at this
    unfold posS
    omega
  refine Lib.bsGo_spec _ (posS V x) (fun t ht => ?_) (fun t ht => ?_) _ _ _ (by omega) (Nat.zero_le _) hle
  · have h1 : V[t]? = some V[t] := List.getElem?_eq_getElem (by omega)
    have h2 : (V.take (posS V x))[t]? = some V[t] := by rw [List.getElem?_take, if_pos ht]; exact h1
    rw [c1] at h2
    have h3 := List.all_eq_true.1 (List.all_takeWhile (p := (ltS · x)) (l := V)) _ (List.mem_of_getElem? h2)
    rw [h1]
    exact h3
  · rcases Nat.lt_or_ge t V.length with hl | hl
    · have h1 : V[t]? = some V[t] := List.getElem?_eq_getElem hl
      have h2 : (V.drop (posS V x))[t - posS V x]? = some V[t] := by rw [List.getElem?_drop, Nat.add_sub_cancel' ht]; exact h1
      rw [c2] at h2
      have h3 := drop_ge hV _ (List.mem_of_getElem? h2)
      rw [h1]
      exact Bool.eq_false_iff.2 h3
    · have h1 : V[t]? = none := List.getElem?_eq_none hl
      rw [h1]
      exact Bool.eq_false_iff.2 (ltS_irrefl x)
theorem posS_in {V : List ByteArray} (hV : RiseS V) {x : ByteArray} (hx : x ∈ V) : V[posS V x]? = some x := by
  obtain ⟨c1, c2⟩ := posS_cut V x
  have hs := List.takeWhile_append_dropWhile (p := (ltS · x)) (l := V)
  have hd : x ∈ V.dropWhile (ltS · x) := by
    rw [← hs] at hx
    rcases List.mem_append.1 hx with h | h
    · exact absurd (List.all_eq_true.1 (List.all_takeWhile (p := (ltS · x)) (l := V)) _ h) (ltS_irrefl x)
    · exact h
  have hr : RiseS (V.dropWhile (ltS · x)) := hV.sublist (List.dropWhile_sublist _)
  have h0 : V[posS V x]? = (V.dropWhile (ltS · x))[0]? := by rw [← c2, List.getElem?_drop]; rfl
  rw [h0]
  have hg := drop_ge (s := x) hV
  cases hdd : V.dropWhile (ltS · x) with
  | nil => rw [hdd] at hd; cases hd
  | cons y r =>
    rw [hdd] at hd hr hg
    rcases List.mem_cons.1 hd with h | h
    · rw [h]; rfl
    · exact absurd ((List.pairwise_cons.1 hr).1 x h) (hg y (List.mem_cons_self ..))
theorem bsearch_any (sv : Value) (V : List ByteArray) (x : ByteArray) (w : World) (h : RdS w sv V) (hV : RiseS V) (hm : V.length ≤ 1000000) :
    Calls Tryd.prog 87 #[sv, .string x] w fun e w' => e = .returned (.tuple #[.int .i64 (posS V x : Nat), .bool (decide (idxS V x < V.length))]) ∧ Ext w w' := by
  obtain ⟨A, c, rfl, hc, hA⟩ := h
  by_cases hne : V = []
  · subst hne
    refine (Any2.slices_BinarySearch_string_empty Tryd.laysBS A c x w).mono ?_
    rintro e w' ⟨rfl, rfl⟩
    exact ⟨rfl, ext_refl _⟩
  · obtain ⟨b, off, rfl, hb, hcell⟩ := hA hne
    refine (Any2.slices_BinarySearch_string Tryd.laysBS b off V.length c (fun t => (V[t]?).getD x) x w (by omega) (fun j hj => hcell j _ (by simp [hj]))).mono ?_
    rintro e w' ⟨rfl, q, rfl⟩
    refine ⟨?_, ext_drewN _ _⟩
    simp only [bs_spec hV x]
    refine congrArg (fun b => Ending.returned (.tuple #[.int .i64 (posS V x : Nat), .bool b])) ?_
    rw [Bool.eq_iff_iff, decide_eq_true_eq, decide_eq_true_eq, idxS_lt]
    constructor
    · rintro ⟨h1, h2⟩
      have h3 : V[posS V x]? = some V[posS V x] := List.getElem?_eq_getElem h1
      rw [h3] at h2
      exact List.mem_of_getElem? (h3.trans (congrArg some h2))
    · intro hx
      have h3 := posS_in hV hx
      exact ⟨(List.getElem?_eq_some_iff.1 h3).1, by rw [h3]; rfl⟩
/-- a table's parts, under a name -/
theorem place_any (tv : Value) (V : List ByteArray) (R : List (List Int)) (x : ByteArray) (w : World) (h : TabV w tv V R) (hV : RiseS V) (hm : V.length ≤ 1000000) :
    Calls Tryd.prog 79 #[tv, .string x] w fun e w' => e = .returned (.int .i64 (if idxS V x < V.length then (idxS V x : Int) else -1)) ∧ Ext w w' := by
  obtain ⟨vv, rv, rfl, h1, h2⟩ := h
  have HB := fun w' (hE : Ext w w') => Lib.hid (bsearch_any vv V x w' (rdS_ext h1 hE) hV hm)
  have HB2 := Lib.hid HB
  obtain ⟨A, c, rfl⟩ := rdS_form h1
  obtain ⟨B, d, rfl⟩ := rdW_form h2
  have HP : idxS V x < V.length → Hid (posS V x = idxS V x) := fun hh => Lib.hid (idxS_nodup (rise_nodup hV) (posS_in hV (idxS_lt.1 hh))).symm
  clear HB h1 h2 hV
  by_cases hh : idxS V x < V.length
  · have hd : decide (idxS V x < V.length) = true := by simpa using hh
    rw [if_pos hh, ← (HP hh).out]
    rw [hd] at HB2
    clear hd HP hh
    go_enter Tryd.func79, Tryd.ntmps79
    go_wp2_with (go_at_call 87; refine (HB2.out _ (ext_alloc (ext_refl _) _)).out.mono ?_; rintro e w1 ⟨rfl, hE1⟩; have HE1 := Lib.hid (ext_trans (ext_alloc (ext_refl _) _) hE1); clear hE1)
    refine bodyPost_ret (results_tmp rfl _ _ _) rfl ?_
    exact ⟨rfl, HE1.out⟩
  · have hd : decide (idxS V x < V.length) = false := by simpa using hh
    rw [if_neg hh]
    rw [hd] at HB2
    clear hd HP hh
    go_enter Tryd.func79, Tryd.ntmps79
    go_wp2_with (go_at_call 87; refine (HB2.out _ (ext_alloc (ext_refl _) _)).out.mono ?_; rintro e w1 ⟨rfl, hE1⟩; have HE1 := Lib.hid (ext_trans (ext_alloc (ext_refl _) _) hE1); clear hE1)
    refine bodyPost_ret (results_tmp rfl _ _ _) rfl ?_
    exact ⟨rfl, HE1.out⟩
end Go.Proofs.YtniggdaakiofeaaDoor
