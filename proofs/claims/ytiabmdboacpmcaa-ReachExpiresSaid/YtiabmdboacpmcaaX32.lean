/- Texts joined: Hv. -/
import Derived.Test.YtiabmdboacpmcaaX31
import Derived.Test.YtiabmdboacpmcaaX06
import Derived.Test.YtiabmdboacpmcaaX24
import Derived.Test.YtiabmdboacpmcaaX26
/- Rows of acts. -/
namespace Go.Proofs.Ytiabmdboacpmcaa
open Go Go.RowKit Go.Sort Go.WideMaps Go.Maps
set_option maxHeartbeats 4000000

def elAR : El AR := ⟨fun x => [.int .u8 x.kind, .int .i64 x.key.a, .int .i64 x.key.b, .int .i64 x.key.c, .int .i64 x.till], 5, 82, by decide, fun _ => rfl, fun x u hu => by
  rcases List.mem_cons.1 hu with rfl | hu
  · rfl
  · rcases List.mem_cons.1 hu with rfl | hu
    · rfl
    · rcases List.mem_cons.1 hu with rfl | hu
      · rfl
      · rcases List.mem_cons.1 hu with rfl | hu
        · rfl
        · rw [List.mem_singleton.1 hu]; rfl⟩
noncomputable def tpAR : Tp Try.prog 60 elAR := ⟨(Try.prog.info? 82).get (by kernel_rfl), .agg #[.int .u8 0, .int .i64 0, .int .i64 0, .int .i64 0, .int .i64 0], 40, Try.underlying60, by kernel_rfl, by kernel_rfl, by kernel_rfl, by kernel_rfl, rfl, by decide⟩
theorem srcOf_acts {w : World} {v : Value} {L : List AR} (h : RdAR w v L) : SrcOf elAR w v L := by
  obtain ⟨A, c, rfl, _, h3⟩ := h
  refine ⟨A, c, rfl, fun hne => ?_⟩
  obtain ⟨b, off, rfl, lb, hc⟩ := h3 hne
  refine ⟨_, rfl, fun j u hu => ?_⟩
  have hj : j < L.length * 5 := by
    have := (List.getElem?_eq_some_iff.1 hu).1
    rw [flatE_length] at this
    exact this
  obtain ⟨i, r, hr, hij⟩ : ∃ i r, r < 5 ∧ j = i * 5 + r := ⟨j / 5, j % 5, Nat.mod_lt _ (by omega), by omega⟩
  have hi : i < L.length := by omega
  obtain ⟨x, hx⟩ : ∃ x, L[i]? = some x := ⟨_, List.getElem?_eq_getElem hi⟩
  have hf := flatE_at elAR L i x hx r hr
  rw [hij] at hu
  have hu' : (flatE elAR L)[i * elAR.size + r]? = some u := hu
  rw [hf] at hu'
  obtain ⟨c0, c1, c2, c3, c4⟩ := hc i x hx
  rw [addr_add0, hij]
  rcases (by omega : r = 0 ∨ r = 1 ∨ r = 2 ∨ r = 3 ∨ r = 4) with rfl | rfl | rfl | rfl | rfl
  · cases hu'; exact c0
  · cases hu'; exact c1
  · cases hu'; exact c2
  · cases hu'; exact c3
  · cases hu'; exact c4
theorem rdAR_row {w : World} {v : Value} {L : List AR} (h : rowE elAR w v L) (hok : ∀ x ∈ L, ok3 x.key ∧ okI x.till) : RdAR w v L := by
  obtain ⟨A, c, rfl⟩ := rowE_form h
  refine ⟨A, c, rfl, hok, fun hne => ?_⟩
  obtain ⟨g, rfl, hg⟩ := rowE_some h hne
  refine ⟨g, 0, rfl, hg, fun i x hx => ?_⟩
  rw [Nat.zero_add]
  exact ⟨rowE_cell h hx (j := 0) rfl, rowE_cell h hx (j := 1) rfl, rowE_cell h hx (j := 2) rfl, rowE_cell h hx (j := 3) rfl, rowE_cell h hx (j := 4) rfl⟩
theorem leG_refl (E : Gr3) : leG E E := fun _ => leO_refl _
theorem leG_trans {E E' E'' : Gr3} (h : leG E E') (k : leG E' E'') : leG E E'' := fun x => leO_trans (h x) (k x)
theorem leG_add (E : List Ed) (k : Key) (u : Int) : leG (grOf E) (grOf (addL E k u)) := by
  rw [grOf_add]
  cases hk : grOf E k with
  | none => exact setG_le (fun v hv => by rw [hk] at hv; cases hv)
  | some v =>
    simp only
    split
    · exact setG_le (fun v' hv => by rw [hk] at hv; cases hv; omega)
    · exact leG_refl _
theorem leG_foldl : ∀ (L : List AR) (E : List Ed), leG (grOf E) (grOf (L.foldl (fun E x => addL E (absK x.key) (untZ x.till)) E))
  | [], _ => leG_refl _
  | _x :: L, E => leG_trans (leG_add E _ _) (leG_foldl L _)
theorem leG_more (L M : List AR) : leG (grOf (edsL L)) (grOf (edsL (L ++ M))) := by
  unfold edsL
  rw [List.foldl_append]
  exact leG_foldl M _
/-- a forest among others: as a call hands it over -/
def FoT (t : Tr) (E : List Ed) (H : Nat) (v : Value) (w : World) : Prop := ∃ w0 L ve N, v = .tuple #[ptr L.pf, ve] ∧ FoR t E H N w0 L ve w
theorem foT_ext {t : Tr} {E : List Ed} {H : Nat} (v : Value) (w w' : World) (hE : Ext w w') (h : FoT t E H v w) : FoT t E H v w' := by
  obtain ⟨w0, L, ve, N, h1, h2⟩ := h
  exact ⟨w0, L, ve, N, h1, foR_ext h2 hE⟩
theorem foR_fo {t : Tr} {E : List Ed} {H N : Nat} {w0 : World} {L : Loc} {ve : Value} {w : World} (h : FoR t E H N w0 L ve w) : ∃ F, Fo t w0 L 100 minI (grOf E) F w := by
  obtain ⟨F, h1, _⟩ := h
  exact ⟨F, h1⟩
theorem pairs_foR {t : Tr} {E : List Ed} {H N : Nat} {w0 : World} {L : Loc} {ve : Value} {w : World} (h : FoR t E H N w0 L ve w) (hnd : KeysNd E) (hl : E.length ≤ 100) : Calls Try.prog 38 #[ptr L.pf] w (PairsTo t (grOf E) w) := by
  obtain ⟨F, h1, _⟩ := h
  exact pairs_any t w0 L 100 minI (grOf E) F (E.map (·.1)) w h1 (card_of hnd) (by rw [List.length_map]; exact hl)
end Go.Proofs.Ytiabmdboacpmcaa
