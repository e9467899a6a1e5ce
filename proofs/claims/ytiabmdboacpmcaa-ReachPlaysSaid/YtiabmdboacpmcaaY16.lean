/- Texts joined: Po. -/
import Derived.Laws.MakeOwn
import Derived.Test.YtiabmdboacpmcaaY14
import Derived.Test.YtiabmdboacpmcaaY15
/- closed. -/
namespace Go.Proofs.Ytiabmdboacpmcaa
open Go Go.RowKit Go.Sort
set_option maxHeartbeats 1000000

/-- which states are marked -/
def SeenAt (w : World) (g m : Nat) (out : List Nat) : Prop := ∃ cs, w.heap[g]? = some (.cells cs 4 (0, 0)) ∧ ∀ i, i < m → cs[i]? = some (.bool (decide (i ∈ out)))
theorem seen_ext {w w' : World} {g m : Nat} {out : List Nat} (h : SeenAt w g m out) (hE : Ext w w') : SeenAt w' g m out := by
  obtain ⟨cs, h1, h2⟩ := h
  exact ⟨cs, (ext_block hE (block_lt h1)).trans h1, h2⟩
def lenV : Value → Nat
  | .slice _ n _ => n
  | _ => 0
/-- what lies of the moves of a state -/
theorem cur_row {W w : World} {p m s : Nat} {bg en : Int} {mv : List Mv} (h : Cur W p bg en mv m w) (hs : s < m) :
    ∃ (g c : Nat) (l : List Mo) (A : Option Addr) (c2 : Nat), w.cell? ⟨p, 0, none⟩ = some (.slice (some ⟨g, 0, none⟩) m c) ∧ p < w.heap.size ∧ w.cell? ⟨g, s, none⟩ = some (.slice A l.length c2) ∧ g < w.heap.size ∧
      rowE elM w (.slice A l.length c2) l ∧ (∀ o d, (o, d) ∈ l ↔ (s, o, d) ∈ mv) ∧ l.length ≤ mv.length := by
  obtain ⟨Ms, hM, hML, hMH, hMS, hMW⟩ := h
  obtain ⟨hp, A, c, Vs, h1, h2, h3, h4, h5⟩ := hM
  have hsv : s < Vs.length := by omega
  obtain ⟨x, hx⟩ : ∃ x, Vs[s]? = some x := ⟨_, List.getElem?_eq_getElem hsv⟩
  obtain ⟨l, hlm⟩ : ∃ l, Ms[s]? = some l := ⟨_, List.getElem?_eq_getElem (by omega)⟩
  have h4x := h4 s x l hx hlm
  obtain ⟨g, hg, lg⟩ := rowE_some h2.1 (fun e => by rw [e] at hsv; simp at hsv)
  subst hg
  obtain ⟨A2, c2, hx2⟩ := rowE_form h4x.1
  have qs : w.cell? ⟨g, s, none⟩ = some (slv x) := by
    have := rowE_cell h2.1 hx (j := 0) (u := slv x) rfl
    simpa [elV] using this
  refine ⟨g, c, l, A2, c2, by rw [block_cell h1 0, h3, hML]; rfl, block_lt h1, by rw [qs, hx2], lg, by rw [← hx2]; exact h4x.1, fun o d => ?_, hMS l (List.mem_of_getElem? hlm)⟩
  rw [← hMH s o d]
  constructor
  · exact fun h => ⟨l, hlm, h⟩
  · rintro ⟨l', hl', h⟩
    rw [hlm] at hl'
    cases hl'
    exact h
theorem cur_zero {W w : World} {p m : Nat} {bg en : Int} {mv : List Mv} (h : Cur W p bg en mv m w) : ∃ (A : Option Addr) (c : Nat), w.heap[p]? = some (.cells #[.slice A m c, .int .i64 bg, .int .i64 en] 106 (0, 0)) := by
  obtain ⟨Ms, ⟨hp, A, c, Vs, h1, h2, h3, h4, h5⟩, hML, _⟩ := h
  exact ⟨A, c, by rw [h1, h3, hML]⟩

set_option maxRecDepth 100000 in
theorem make_bools (m : Nat) (hm : m ≤ 1000) : ∃ cs0 : Array Value, (∀ i, i < m → cs0[i]? = some (.bool false)) ∧ ∀ w : World, Sem.run Try.prog (Instr.makeSlice 149 (.int .i64 (m : Int)) (.int .i64 (m : Int))) w = .ok (.slice (some ⟨w.heap.size, 0, none⟩) m m) (w.alloc (.cells cs0 4)) := by
  have hi : (Try.prog.info? 4) = some ((Try.prog.info? 4).get (by kernel_rfl)) := (Option.some_get _).symm
  have hsz : ((Try.prog.info? 4).get (by kernel_rfl)).size = 1 := by kernel_rfl
  have hz : ((Try.prog.info? 4).get (by kernel_rfl)).zero = some (.bool false) := by kernel_rfl
  have hby : ((Try.prog.info? 4).get (by kernel_rfl)).bytes = 1 := by kernel_rfl
  refine ⟨madeCells (Value.bool false).cells (m * 1), fun i hi => ?_, fun w => ?_⟩
  · simp [madeCells, Value.cells, hi, Nat.mod_one]
  · have h := run_makeSlice (P := Try.prog) w 149 4 _ (.bool false) Try.underlying149 hi hz .i64 .i64 (m : Int) (m : Int) (by omega) (Int.le_refl _) (by rw [hsz]; simp; omega) (by rw [hby]; omega) (by omega)
    rw [hsz, Int.toNat_natCast] at h
    exact h
/-- the first elements of a row -/
theorem rowF_take {α : Type} {E : El α} {H n c k : Nat} {L : List α} {A : Option Addr} {w : World} (h : rowF E H L (.slice A n c) w) (hk : k ≤ L.length) : rowF E H (L.take k) (.slice A k c) w := by
  rcases rowE_cases h.1 with ⟨h1, h2⟩ | ⟨g, cap, cur, h1, hg, h2, h3, h4, h5⟩
  · simp only [Value.slice.injEq] at h1
    obtain ⟨rfl, rfl, rfl⟩ := h1
    subst h2
    have : k = 0 := by simpa using hk
    subst this
    exact rowF_nil _ _
  · simp only [Value.slice.injEq] at h1
    obtain ⟨rfl, rfl, rfl⟩ := h1
    have hl : (L.take k).length = k := by rw [List.length_take]; omega
    refine ⟨⟨by rw [flatE_length], .inr ⟨g, c, cur, by rw [hl], Nat.zero_le _, hg, by rw [hl]; omega, h3, h4, ?_⟩⟩, h.2⟩
    rw [hl, flatE_take, ← h5, List.take_take]
    congr 1
    have : k * E.size ≤ L.length * E.size := Nat.mul_le_mul_right _ hk
    omega
def freeD (l : List Mo) : List Nat := l.filterMap fun m => if m.1 = none then some m.2 else none
theorem freeD_mem {l : List Mo} {d : Nat} : d ∈ freeD l ↔ (none, d) ∈ l := by
  simp only [freeD, List.mem_filterMap]
  constructor
  · rintro ⟨⟨o, d'⟩, h1, h2⟩
    split at h2
    · rename_i h
      simp only at h
      cases h2
      exact h ▸ h1
    · cases h2
  · exact fun h => ⟨_, h, by simp⟩
theorem freeD_len (l : List Mo) : (freeD l).length ≤ l.length := List.length_filterMap_le _ _
theorem freeD_free {l : List Mo} {j d : Nat} (h : l[j]? = some (none, d)) : freeD (l.take (j + 1)) = freeD (l.take j) ++ [d] := by
  rw [List.take_add_one, h]
  simp [freeD]
theorem freeD_sym {l : List Mo} {j d : Nat} {a : Sy} (h : l[j]? = some (some a, d)) : freeD (l.take (j + 1)) = freeD (l.take j) := by
  rw [List.take_add_one, h]
  simp [freeD]
theorem seen_set {w : World} {g m s : Nat} {out : List Nat} (h : SeenAt w g m out) (_hs : s < m) : SeenAt (w.setCell ⟨g, s, none⟩ (.bool true)) g m (out ++ [s]) := by
  obtain ⟨cs, h1, h2⟩ := h
  refine ⟨_, heap_setCell_at h1, fun i hi => ?_⟩
  by_cases e : s = i
  · subst e
    have : s < cs.size := (Array.getElem?_eq_some_iff.1 (h2 s hi)).1
    rw [Array.getElem?_setIfInBounds_self_of_lt this]
    simp
  · rw [Array.getElem?_setIfInBounds_ne e, h2 i hi]
    have hne : ¬ i = s := fun h => e h.symm
    simp [hne]
theorem seen_upd {fp : Nat → Prop} {w w' : World} {g m : Nat} {out : List Nat} (h : SeenAt w g m out) (hu : Upd fp w w') (hn : ¬ fp g) : SeenAt w' g m out := by
  obtain ⟨cs, h1, h2⟩ := h
  exact ⟨cs, (hu.block g (block_lt h1) hn).trans h1, h2⟩
theorem seen_off {α : Type} {E : El α} {H g m : Nat} {out : List Nat} {L : List α} {v : Value} {w : World} (h : SeenAt w g m out) (hr : rowF E H L v w) (ht : E.ty ≠ 4) : v.ownBlock ≠ some g := by
  obtain ⟨cs, h1, _⟩ := h
  exact rowE_off hr.1 h1 (fun e => ht e.symm)
theorem rowE_cells4 {w : World} {g n c j : Nat} {l : List Mo} {x : Mo} (h : rowE elM w (.slice (some ⟨g, 0, none⟩) n c) l) (hx : l[j]? = some x) : ∀ (i : Nat) (u : Value), (encM x)[i]? = some u → w.cell? ⟨g, j * 4 + i, none⟩ = some u := fun _i _u hu => rowE_cell (E := elM) h hx hu

set_option maxRecDepth 100000 in
theorem closed_any (W w : World) (p m : Nat) (bg en : Int) (mv : List Mv) (v : Value) (S : List Nat) (hC : Cur W p bg en mv m w) (hv : RdN w v S) (hS : ∀ s ∈ S, s < m) (hd : ∀ s o d, (s, o, d) ∈ mv → d < m) (hm : m ≤ 1000) (hmv : mv.length ≤ 1000) (hSl : S.length ≤ 10000000) :
    Calls Try.prog 63 #[.pointer (some ⟨p, 0, none⟩), v] w fun e w' => ∃ A c L, e = .returned (.slice A L.length c) ∧ rowF elN w.heap.size L (.slice A L.length c) w' ∧ IsClo mv S L ∧ Ext w w' := by
  have HC := Lib.hid hC
  have HV := Lib.hid hv
  obtain ⟨A0, c0, rfl, -, -⟩ := hv
  have HS := Lib.hid hS
  have HD := Lib.hid hd
  obtain ⟨Am, cm, hpb⟩ := cur_zero hC
  have q0 := block_cell hpb 0
  have lp := block_lt hpb
  simp at q0
  obtain ⟨cs0, hcs0, hmk⟩ := make_bools m hm
  have HCS := Lib.hid hcs0
  clear hC hS hd hpb hcs0
  go_enter Try.func63, Try.ntmps63
  have hE0 : Ext w (w.alloc (.cells cs0 4)) := ext_alloc (ext_refl _) _
  have hs0 : SeenAt (w.alloc (.cells cs0 4)) w.heap.size m [] := ⟨cs0, heap_alloc_new w _, fun i hi => by rw [HCS.out i hi]; simp⟩
  go_wp2_with fail
  refine (cloneN_any _ S _ (rdN_ext HV.out hE0) (by omega)).mono ?_
  rintro e w1 ⟨A1, c1, rfl, hr1, hE1⟩
  have HE1 := Lib.hid (ext_trans hE0 hE1)
  have HS1 := Lib.hid (seen_ext hs0 hE1)
  have HR1 := Lib.hid (rowF_low hr1 (ext_size hE0))
  clear hE0 hs0 hr1 hE1 q0 lp hmk
  go_wp2
  go_loopw [6, 7] (fun x y wr => ∃ (wl ol : List Nat) (A : Option Addr) (c : Nat) (B : Option Addr) (d : Nat), x = .slice A wl.length c ∧ y = .slice B ol.length d ∧ CloInv mv m S ol wl ∧ rowF elN w.heap.size wl (.slice A wl.length c) wr ∧ rowF elN w.heap.size ol (.slice B ol.length d) wr ∧
    (∀ b, (Value.slice A wl.length c).ownBlock = some b → (Value.slice B ol.length d).ownBlock ≠ some b) ∧ SeenAt wr w.heap.size m ol ∧ (m - ol.length) * 1001 + wl.length ≤ 100000000 ∧ Ext w wr) (fun x y _ => (m - lenV y) * 1001 + lenV x)
  case atStart => exact ⟨S, [], A1, c1, none, 0, rfl, rfl, clo_start HS.out, HR1.out, rowF_nil _ _, fun b _ h => (by cases h), HS1.out, by simp; omega, HE1.out⟩
  case round =>
    rename World => wo
    obtain ⟨wl, ol, A, c, B, d, rfl, rfl, hinv, hrw, hro, hsep, hseen, hmeas, hE⟩ := hrel
    have HI := Lib.hid hinv
    have HRW := Lib.hid hrw
    have HRO := Lib.hid hro
    have HSEP := Lib.hid hsep
    have HSE := Lib.hid hseen
    have HE := Lib.hid hE
    have hol := nodup_le m ol hinv.nodup hinv.ltO
    have hcap := (rowE_cap hrw.1).2
    clear hinv hrw hro hsep hseen hE
    rcases List.eq_nil_or_concat wl with rfl | ⟨wl', s, rfl⟩
    · go_wp2_with fail
      refine (sortN_any w.heap.size _ ol wo HRO.out (by omega)).mono ?_
      rintro e w2 ⟨rfl, hr2, hu2⟩
      have HR2 := Lib.hid hr2
      have HEW := Lib.hid (show Ext w w2 from ext_of_upd (upd_trans (upd_of_ext (fp := fun _ => False) HE.out) hu2 (fun i hi e => by have := HRO.out.2 i e; omega)))
      clear hr2 hu2
      go_wp2
      refine bodyPost_ret (results_tmp rfl _ _ _) rfl ?_
      exact ⟨B, d, sortN ol, by rw [sortN_length]; rfl, by rw [sortN_length]; exact HR2.out, isClo_sort HI.out, HEW.out⟩
    · rw [List.concat_eq_append] at HI HRW HSEP hmeas hcap ⊢
      obtain ⟨k, hk⟩ : ∃ k, k = wl'.length := ⟨_, rfl⟩
      have hkl : (wl' ++ [s]).length = k + 1 := by rw [List.length_append, hk]; rfl
      have HKL := Lib.hid hkl
      rw [hkl] at HRW HSEP hmeas hcap ⊢
      have HK := Lib.hid hk
      have hsm : s < m := HI.out.ltW s (by simp)
      have hsk : (wl' ++ [s])[k]? = some s := by rw [hk]; simp
      obtain ⟨ga, hA, lga⟩ := rowE_some HRW.out.1 (by simp)
      subst hA
      have q1 := rowN_cell HRW.out.1 hsk
      obtain ⟨csn, hsn1, hsn2⟩ := HSE.out
      have q2 : wo.cell? ⟨w.heap.size, s, none⟩ = some (.bool (decide (s ∈ ol))) := by rw [block_cell hsn1]; exact hsn2 s hsm
      have qf := block_frozen hsn1 s
      have lgs := block_lt hsn1
      have hkc : (k : Int) ≤ (c : Int) := by omega
      have hk0 : (0 : Int) ≤ (k : Int) := by omega
      have hsi : (s : Int) < (m : Int) := by omega
      have hs0 : (0 : Int) ≤ (s : Int) := by omega
      have HRT := Lib.hid (show rowF elN w.heap.size wl' (.slice (some ⟨ga, 0, none⟩) k c) wo by
        have := rowF_take HRW.out (k := k) (by rw [HKL.out]; omega)
        rwa [show (wl' ++ [s]).take k = wl' by rw [hk]; simp] at this)
      clear hkl hk hsk hsn1 hsn2
      by_cases hin : s ∈ ol
      · rw [decide_eq_true hin] at q2
        have HIN := Lib.hid hin
        clear hin
        go_wp2
        go_roundw
        case rel => exact ⟨wl', ol, some ⟨ga, 0, none⟩, c, B, d, by rw [← HK.out], rfl, clo_seen HI.out HIN.out, by rw [← HK.out]; exact HRT.out, HRO.out, fun b hb => HSEP.out b hb, HSE.out, by rw [← HK.out]; omega, HE.out⟩
        case measure => simp [lenV]
      · rw [decide_eq_false hin] at q2
        have HIN := Lib.hid hin
        clear hin
        go_wp2_with (at_builtin; refine halt_here ?_)
        refine go_on ?_
        obtain ⟨w2, hw2⟩ : ∃ w2, w2 = wo.setCell ⟨w.heap.size, s, none⟩ (.bool true) := ⟨_, rfl⟩
        rw [← hw2]
        obtain ⟨csn, hsn1, _⟩ := HSE.out
        have SE2 := Lib.hid (show SeenAt w2 w.heap.size m (ol ++ [s]) by rw [hw2]; exact seen_set HSE.out hsm)
        have RT2 := Lib.hid (show rowF elN w.heap.size wl' (.slice (some ⟨ga, 0, none⟩) k c) w2 by rw [hw2]; exact upd_off HRT.out hsn1 (by decide))
        have RO2 := Lib.hid (show rowF elN w.heap.size ol (.slice B ol.length d) w2 by rw [hw2]; exact upd_off HRO.out hsn1 (by decide))
        have E2 := Lib.hid (show Ext w w2 by rw [hw2]; exact ext_set HE.out (Nat.le_refl _) _)
        have HZ2 := Lib.hid (show w2.heap.size = wo.heap.size by rw [hw2]; simp [World.setCell])
        have HOLN := Lib.hid (nodup_le m (ol ++ [s]) (by rw [List.nodup_append]; exact ⟨HI.out.nodup, by simp, fun a ha b hb => by rw [List.mem_singleton.1 hb]; exact fun e => HIN.out (e ▸ ha)⟩) (fun x hx => by
          rcases List.mem_append.1 hx with h | h
          · exact HI.out.ltO x h
          · rw [List.mem_singleton.1 h]; exact hsm))
        clear hw2 hsn1 q1 q2 qf lgs
        have hEa := ext_alloc (ext_refl w2) (.cells #[.int .i64 (s : Int)] 3)
        refine wpList_append rfl (.tmp 40) (.tmp 42) rfl _ _ rfl rfl (fun v' w' => rowF elN w.heap.size (ol ++ [s]) v' w' ∧ (w2.alloc (.cells #[.int .i64 (s : Int)] 3)).grownBy w' (Value.slice B ol.length d).ownBlock ∧ (v'.ownBlock = (Value.slice B ol.length d).ownBlock ∨ v'.ownBlock = some (w2.alloc (.cells #[.int .i64 (s : Int)] 3)).heap.size)) (append_at tpN _ w.heap.size (.slice B ol.length d) _ ol [s] _ (rowF_ext _ _ _ hEa RO2.out) (srcOf_one (H := 0) ⟨wo.heap.size, rfl, Nat.zero_le _, by rw [← HZ2.out]; exact heap_alloc_new w2 _⟩) (by simp; omega) (Nat.le_trans (ext_size E2.out) (ext_size hEa))) ?_
        rintro v3 w3 ⟨hr3, hg3, hat3⟩
        obtain ⟨B3, d3, hv3⟩ := rowE_form hr3.1
        obtain ⟨on, hon⟩ : ∃ on, on = ol ++ [s] := ⟨_, rfl⟩
        rw [← hon] at hr3 hv3 SE2 HOLN
        subst hv3
        have RO3 := Lib.hid hr3
        have SE3 := Lib.hid (seen_upd (seen_ext SE2.out hEa) (upd_grown hg3) (seen_off (seen_ext SE2.out hEa) (rowF_ext _ _ _ hEa RO2.out) (by decide)))
        have RT3 := Lib.hid (rowF_upd (rowF_ext _ _ _ hEa RT2.out) (upd_grown hg3) (fun b hb => HSEP.out b hb))
        have E3 := Lib.hid (show Ext w w3 from ext_grown (ext_trans E2.out hEa) hg3 RO2.out.2 (Nat.le_refl _))
        have SEP3 := Lib.hid (show ∀ b, (Value.slice (some ⟨ga, 0, none⟩) k c).ownBlock = some b → (Value.slice B3 on.length d3).ownBlock ≠ some b from fun b hb e => by
          rcases hat3 with h | h
          · exact HSEP.out b hb (h ▸ e)
          · rw [h] at e
            have e2 := Option.some.inj e
            have h3 := (rowE_block HRT.out.1 hb).1
            have h4 := ext_size hEa
            have h5 := HZ2.out
            omega)
        have HON := Lib.hid hon
        have hol2 := HOLN.out
        have hol3 : on.length ≤ ol.length + 1 := by rw [hon]; simp
        have hol4 : ol.length + 1 ≤ on.length := by rw [hon]; simp
        clear hr3 hg3 hat3 hEa hon
        obtain ⟨gl, cl, l, Al, c2, r0, lp3, r1, lgl, hlr, hlm, hll⟩ := cur_row (cur_ext HC.out E3.out) hsm
        have HLR := Lib.hid hlr
        have HLM := Lib.hid hlm
        clear hlr hlm
        go_wp2
        clear r0 lp3 r1 lgl
        go_loopw [52, 6] (fun x y wr => ∃ (j : Nat) (wl : List Nat) (A : Option Addr) (c : Nat), j ≤ l.length ∧ x = .int .i64 j ∧ y = .slice A wl.length c ∧ wl = wl' ++ freeD (l.take j) ∧ rowF elN w.heap.size wl (.slice A wl.length c) wr ∧ rowF elN w.heap.size on (.slice B3 on.length d3) wr ∧
          (∀ b, (Value.slice A wl.length c).ownBlock = some b → (Value.slice B3 on.length d3).ownBlock ≠ some b) ∧ SeenAt wr w.heap.size m on ∧ Ext w wr ∧ rowE elM wr (.slice Al l.length c2) l) (fun x _ _ => l.length - (intOf x).toNat)
        case atStart => exact ⟨0, wl', some ⟨ga, 0, none⟩, c, Nat.zero_le _, rfl, by rw [← HK.out], by simp [freeD], by rw [← HK.out]; exact RT3.out, RO3.out, fun b hb => SEP3.out b hb, SE3.out, E3.out, HLR.out⟩
        case round =>
          rename World => wq
          obtain ⟨j, wl, A5, c5, hj, rfl, rfl, hwl, hrw, hro, hsp, hse, hE5, hml⟩ := hrel
          have HWL := Lib.hid hwl
          have RW := Lib.hid hrw
          have RO := Lib.hid hro
          have SP := Lib.hid hsp
          have SE := Lib.hid hse
          have E5 := Lib.hid hE5
          have ML := Lib.hid hml
          have hwll : wl.length ≤ k + 1000 := by
            rw [hwl, List.length_append, HK.out]
            have := freeD_len (l.take j)
            have := List.length_take_le j l
            omega
          clear hwl hrw hro hsp hse hE5 hml
          by_cases hlt : j < l.length
          · have hji : (j : Int) < (l.length : Int) := by omega
            have hj0 : (0 : Int) ≤ (j : Int) := by omega
            obtain ⟨x, hx⟩ : ∃ x, l[j]? = some x := ⟨_, List.getElem?_eq_getElem hlt⟩
            obtain ⟨gm, hgm, lgm⟩ := rowE_some ML.out (fun e => by rw [e] at hx; simp at hx)
            subst hgm
            have hcells := rowE_cells4 ML.out hx
            obtain ⟨o, dd⟩ := x
            cases o with
            | none =>
              have z0 := hcells 0 _ rfl
              rw [Nat.add_zero] at z0
              have z1 := hcells 1 _ rfl
              have z2 := hcells 2 _ rfl
              have z3 := hcells 3 _ rfl
              have HX := Lib.hid hx
              clear hx hcells
              go_wp2_with (at_builtin; refine halt_here ?_)
              refine go_on ?_
              have hEb := ext_alloc (ext_refl wq) (.cells #[.int .i64 0, .bool false, .bool true, .int .i64 (dd : Int)] 114)
              obtain ⟨wp, hwp⟩ : ∃ wp, wp = wq.alloc (.cells #[.int .i64 0, .bool false, .bool true, .int .i64 (dd : Int)] 114) := ⟨_, rfl⟩
              rw [← hwp] at hEb ⊢
              have HZP := Lib.hid (show wp.heap.size = wq.heap.size + 1 by rw [hwp]; simp)
              have HEB := Lib.hid hEb
              clear hEb hwp z0 z1 z2 z3
              have hEa := ext_trans HEB.out (ext_alloc (ext_refl wp) (.cells #[.int .i64 (dd : Int)] 3))
              refine wpList_append rfl (.tmp 58) (.tmp 61) rfl _ _ rfl rfl (fun v' w' => rowF elN w.heap.size (wl ++ [dd]) v' w' ∧ (wp.alloc (.cells #[.int .i64 (dd : Int)] 3)).grownBy w' (Value.slice A5 wl.length c5).ownBlock ∧ (v'.ownBlock = (Value.slice A5 wl.length c5).ownBlock ∨ v'.ownBlock = some (wp.alloc (.cells #[.int .i64 (dd : Int)] 3)).heap.size)) (append_at tpN _ w.heap.size (.slice A5 wl.length c5) _ wl [dd] _ (rowF_ext _ _ _ hEa RW.out) (srcOf_one (H := 0) ⟨wq.heap.size + 1, rfl, Nat.zero_le _, by rw [← HZP.out]; exact heap_alloc_new wp _⟩) (by simp; omega) (Nat.le_trans (ext_size E5.out) (ext_size hEa))) ?_
              rintro v6 w6 ⟨hr6, hg6, hat6⟩
              obtain ⟨A6, c6, hv6⟩ := rowE_form hr6.1
              obtain ⟨wn, hwn⟩ : ∃ wn, wn = wl ++ [dd] := ⟨_, rfl⟩
              rw [← hwn] at hr6 hv6
              subst hv6
              have HWN := Lib.hid hwn
              have RW6 := Lib.hid hr6
              have RO6 := Lib.hid (rowF_upd (rowF_ext _ _ _ hEa RO.out) (upd_grown hg6) (fun b hb e => SP.out b e hb))
              have SE6 := Lib.hid (seen_upd (seen_ext SE.out hEa) (upd_grown hg6) (seen_off (seen_ext SE.out hEa) (rowF_ext _ _ _ hEa RW.out) (by decide)))
              have ML6 := Lib.hid (rowE_upd (rowE_ext ML.out hEa) (upd_grown hg6) (fun b hb e => el_apart (rowE_ext ML.out hEa) (rowE_ext RW.out.1 hEa) (by decide) hb e))
              have E6 := Lib.hid (show Ext w w6 from ext_grown (ext_trans E5.out hEa) hg6 RW.out.2 (Nat.le_refl _))
              have SP6 := Lib.hid (show ∀ b, (Value.slice A6 wn.length c6).ownBlock = some b → (Value.slice B3 on.length d3).ownBlock ≠ some b from fun b hb e => by
                rcases hat6 with h | h
                · exact SP.out b (h ▸ hb) e
                · rw [h] at hb
                  have e2 := Option.some.inj hb
                  have h3 := (rowE_block RO.out.1 e).1
                  have h4 := ext_size hEa
                  omega)
              clear hr6 hg6 hat6 hEa hwn
              go_wp2
              go_roundw
              case rel => exact ⟨j + 1, wn, A6, c6, by omega, by go_num, rfl, by rw [freeD_free HX.out, ← List.append_assoc, ← HWL.out, HWN.out], RW6.out, RO6.out, SP6.out, SE6.out, E6.out, ML6.out⟩
              case measure => simp [intOf]; omega
            | some a =>
              have z0 := hcells 0 _ rfl
              rw [Nat.add_zero] at z0
              have z1 := hcells 1 _ rfl
              have z2 := hcells 2 _ rfl
              have z3 := hcells 3 _ rfl
              have HX := Lib.hid hx
              clear hx hcells
              go_wp2
              go_roundw
              case rel => exact ⟨j + 1, wl, A5, c5, by omega, by go_num, rfl, by rw [freeD_sym HX.out]; exact HWL.out, rowF_ext _ _ _ (ext_alloc (ext_refl _) _) RW.out, rowF_ext _ _ _ (ext_alloc (ext_refl _) _) RO.out, SP.out, seen_ext SE.out (ext_alloc (ext_refl _) _), ext_alloc E5.out _, rowE_ext ML.out (ext_alloc (ext_refl _) _)⟩
              case measure => simp [intOf]; omega
          · obtain rfl : j = l.length := by omega
            have HWL2 := HWL
            rw [List.take_length] at HWL2
            go_wp2
            go_roundw
            case rel =>
              have hci : CloInv mv m S on wl := by
                rw [HON.out, HWL2.out]
                exact clo_new HI.out HIN.out (fun x => freeD_mem.trans (HLM.out none x)) (fun x hx => HD.out s none x ((HLM.out none x).1 (freeD_mem.1 hx)))
              exact ⟨wl, on, A5, c5, B3, d3, rfl, rfl, hci, RW.out, RO.out, SP.out, SE.out, by omega, E5.out⟩
            case measure => simp [lenV]; omega
end Go.Proofs.Ytiabmdboacpmcaa
