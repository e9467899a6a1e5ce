/- Takes; a compiled path's machine. -/
import Derived.Test.YtiabmdboacpmcaaPp
namespace Go.Proofs.Ytiabmdboacpmcaa
open Go Go.RowKit Go.Sort
set_option maxHeartbeats 1000000

theorem machT_mach {W w : World} {p : Nat} {t : Tr} (h : MachT W w p t) : Mach W p (gen t 1 0).many 0 ((gen t 1 0).last : Int) (gen t 1 0).moves w := by
  obtain ⟨h1, h2, h3⟩ := h
  have hp := part_ok t 1 0 h2 (by omega)
  have hs := gen_size t 1 0 h2
  refine ⟨h1, by have := hp.le; omega, fun s o d hm => (hp.good.dst s o d hm).2, by omega, by omega⟩
theorem machT_words {W w : World} {p : Nat} {t : Tr} (h : MachT W w p t) (u : List Sy) : Way (gen t 1 0).moves 0 u (gen t 1 0).last ↔ Words t u := (part_ok t 1 0 h.2.1 (by omega)).ways u

def elY : El Sy := ⟨fun a => [.int .i64 a.1, .bool a.2], 2, 42, by decide, fun _ => rfl, fun x u hu => by
  simp only [List.mem_cons, List.not_mem_nil, or_false] at hu; rcases hu with rfl | rfl <;> rfl⟩
noncomputable def tpY : Tp Try.prog 43 elY := ⟨(Try.prog.info? 42).get (by kernel_rfl), .agg #[.int .i64 0, .bool false], 16, Try.underlying43, by kernel_rfl, by kernel_rfl, by kernel_rfl, by kernel_rfl, rfl, by decide⟩
/-- symbols as they lie, anywhere -/
def RdY (w : World) (v : Value) (L : List Sy) : Prop := ∃ A c, v = .slice A L.length c ∧ L.length ≤ c ∧ (L ≠ [] → ∃ b off, A = some ⟨b, off, none⟩ ∧ b < w.heap.size ∧ ∀ (i : Nat) (x : Sy), L[i]? = some x → w.cell? ⟨b, off + i * 2, none⟩ = some (.int .i64 x.1) ∧ w.cell? ⟨b, off + i * 2 + 1, none⟩ = some (.bool x.2))
theorem rdY_row {w : World} {v : Value} {L : List Sy} (h : rowE elY w v L) : RdY w v L := by
  obtain ⟨A, c, rfl⟩ := rowE_form h
  refine ⟨A, c, rfl, (rowE_cap h).2, fun hne => ?_⟩
  obtain ⟨g, rfl, hg⟩ := rowE_some h hne
  refine ⟨g, 0, rfl, hg, fun i x hx => ⟨?_, ?_⟩⟩
  · have := rowE_cell h hx (j := 0) (u := .int .i64 x.1) rfl
    simpa [elY] using this
  · have := rowE_cell h hx (j := 1) (u := .bool x.2) rfl
    simpa [elY] using this
theorem rdY_ext {w w' : World} {v : Value} {L : List Sy} (h : RdY w v L) (hE : Ext w w') : RdY w' v L := by
  obtain ⟨A, c, h1, h2, h3⟩ := h
  refine ⟨A, c, h1, h2, fun hne => ?_⟩
  obtain ⟨b, off, h4, h5, h6⟩ := h3 hne
  exact ⟨b, off, h4, ext_lt hE h5, fun i x hx => ⟨(ext_cell hE _ _ h5).trans (h6 i x hx).1, (ext_cell hE _ _ h5).trans (h6 i x hx).2⟩⟩
theorem rdY_take {w : World} {A : Option Addr} {n c k : Nat} {L : List Sy} (h : RdY w (.slice A n c) L) (hk : k ≤ L.length) (c' : Nat) (hc : k ≤ c') : RdY w (.slice A k c') (L.take k) := by
  obtain ⟨A', c1, h1, h2, h3⟩ := h
  simp only [Value.slice.injEq] at h1
  obtain ⟨rfl, -, -⟩ := h1
  have hl : (L.take k).length = k := by rw [List.length_take]; omega
  refine ⟨A, c', by rw [hl], by rw [hl]; exact hc, fun hne => ?_⟩
  obtain ⟨b, off, h4, h5, h6⟩ := h3 (fun e => by rw [e] at hne; simp at hne)
  refine ⟨b, off, h4, h5, fun i x hx => h6 i x ?_⟩
  rw [List.getElem?_take] at hx
  split at hx
  · exact hx
  · cases hx

def TakesPost (P : Prop) (w : World) (e : Ending) (w' : World) : Prop := ∃ b : Bool, e = .returned (.bool b) ∧ (b = true ↔ P) ∧ Ext w w'
theorem takes_any (W w : World) (p m b n : Nat) (mv : List Mv) (v : Value) (u : List Sy) (h : Mach W p m b n mv w) (hv : RdY w v u) (hl : u.length ≤ 1000000) :
    Calls Try.prog 24 #[.pointer (some ⟨p, 0, none⟩), v] w (TakesPost (Way mv b u n) w) := by
  have H := Lib.hid h
  obtain ⟨A0, c0, rfl, -, hA⟩ := hv
  have HA := Lib.hid hA
  clear h hA
  go_enter Try.func24, Try.ntmps24
  go_wp2_with fail
  refine (begin_any W w p m b n mv H.out).mono ?_
  rintro e w1 ⟨A1, c1, L1, rfl, hr, hs, hE⟩
  have R1 := Lib.hid hr.1
  have S1 := Lib.hid hs
  have HE1 := Lib.hid hE
  clear hr hs hE
  go_wp2
  go_loopw [12, 5] (fun x y wr => ∃ (j : Nat) (L : List Nat) (B : Option Addr) (d : Nat), j ≤ u.length ∧ x = .int .i64 j ∧ y = .slice B L.length d ∧ rowE elN wr (.slice B L.length d) L ∧ IsSet mv b (u.take j) L ∧ Ext w wr) (fun x _ _ => u.length - (intOf x).toNat)
  case atStart => exact ⟨0, L1, A1, c1, Nat.zero_le _, rfl, rfl, R1.out, S1.out, HE1.out⟩
  case round =>
    rename World => wo
    obtain ⟨j, L, B, d, hj, rfl, rfl, hr, hs, hE⟩ := hrel
    have HR := Lib.hid hr
    have HS := Lib.hid hs
    have HE := Lib.hid hE
    have hLm : ∀ s ∈ L, s < m := fun s hsL => way_lt H.out.dst H.out.lt ((hs.2 s).1 hsL)
    have hLl : L.length ≤ m := nodup_le m L (hs.1.imp (fun h => by omega)) hLm
    have HLM := Lib.hid hLm
    have hm := H.out.hm
    clear hr hs hE hLm
    by_cases hlt : j < u.length
    · have hji : (j : Int) < (u.length : Int) := by omega
      have hj0 : (0 : Int) ≤ (j : Int) := by omega
      obtain ⟨a, ha⟩ : ∃ a, u[j]? = some a := ⟨_, List.getElem?_eq_getElem hlt⟩
      obtain ⟨b1, off, hA0, hb, hca⟩ := HA.out (fun e => by rw [e] at ha; simp at ha)
      subst hA0
      have q0 := (ext_cell HE.out _ _ hb).trans (hca j a ha).1
      have q1 := (ext_cell HE.out _ _ hb).trans (hca j a ha).2
      have lb := ext_lt HE.out hb
      have HJ := Lib.hid ha
      clear ha hca
      go_wp2_with fail
      have hEa := ext_alloc (ext_refl wo) (.cells #[.int .i64 a.1, .bool a.2] 42)
      refine (next_any W _ p m b n mv _ L a (mach_ext H.out (ext_trans HE.out hEa)) (rdN_row (rowE_ext HR.out hEa)) HLM.out (by omega)).mono ?_
      rintro e w2 ⟨A2, c2, L2, rfl, hr2, hn2, hE2⟩
      have R2 := Lib.hid hr2.1
      have S2 := Lib.hid (isSet_next HS.out hn2)
      have HE2 := Lib.hid (ext_trans (ext_trans HE.out hEa) hE2)
      clear hr2 hn2 hE2 hEa
      go_wp2
      go_roundw
      case rel => exact ⟨j + 1, L2, A2, c2, by omega, by go_num, rfl, R2.out, by rw [List.take_add_one, HJ.out]; exact S2.out, HE2.out⟩
      case measure => simp [intOf]; omega
    · obtain rfl : j = u.length := by omega
      rw [List.take_length] at HS
      go_wp2_with (go_at_call 32; refine (final_any W wo p m b n mv _ L (mach_ext H.out HE.out) (rdN_row HR.out) (by omega)).mono ?_; rintro e w2 ⟨rfl, rfl⟩)
      refine bodyPost_ret (results_tmp rfl _ _ _) rfl ?_
      exact ⟨decide (n ∈ L), rfl, by rw [decide_eq_true_eq]; exact HS.out.2 n, HE.out⟩
end Go.Proofs.Ytiabmdboacpmcaa
