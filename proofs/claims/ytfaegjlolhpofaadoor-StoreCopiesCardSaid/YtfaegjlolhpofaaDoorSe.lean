/- What a scan tells, whatever rows there are. -/
import Derived.Test.YtfaegjlolhpofaaDoorSd
namespace Go.Proofs.YtfaegjlolhpofaaDoor
open Go.RowKit Go.Sort Go.Shelf
set_option maxHeartbeats 800000

theorem scan1_nil (yv : Value) (s i : Nat) (hi : i < 3) (v : Nat → Value) (r : Nat → List Key) (room : Int) (p : Key) (b1 b2 b3 b4 : Nat) (w : World)
    (hL : Laid w) (hS : StoreAt w s v r room) (hm : (r i).length ≤ 1000000) (hmono : Rising i (r i)) (hA : ScanAt w s i p b1 b2 b3 b4) (hv : v i = .slice none 0 0) (hr : r i = []) :
    Calls Tryd.prog 32 #[yv, .pointer (some ⟨b1, 0, none⟩), .pointer (some ⟨b2, 0, none⟩), .pointer (some ⟨b3, 0, none⟩), .pointer (some ⟨b4, 0, none⟩)] w fun e W' => (∃ v, e = .returned v) ∧ Ext w W' := by
  have HL := Lib.hid hL
  have HS := Lib.hid hS
  have HM := Lib.hid hmono
  have HLen := Lib.hid hm
  have HA := Lib.hid hA
  have HV := Lib.hid hv
  have HR := Lib.hid hr
  clear hL hS hmono hm hA hv hr
  have hii : (i : Int) < 3 := by omega
  have hi0 : (0 : Int) ≤ (i : Int) := by omega
  have q1 : w.cell? ⟨b1, 0, none⟩ = some (.pointer (some ⟨s, 0, none⟩)) := block_cell HA.out.h1 0
  have q2 : w.cell? ⟨b2, 0, none⟩ = some (.int .i64 i) := block_cell HA.out.h2 0
  have q3a : w.cell? ⟨b3, 0, none⟩ = some (.int .i64 (posKey p).a) := block_cell HA.out.h3 0
  have q3b : w.cell? ⟨b3, 1, none⟩ = some (.int .i64 (posKey p).b) := block_cell HA.out.h3 1
  have q3c : w.cell? ⟨b3, 2, none⟩ = some (.int .i64 (posKey p).c) := block_cell HA.out.h3 2
  have l1 := block_lt HA.out.h1
  have l2 := block_lt HA.out.h2
  have l3 := block_lt HA.out.h3
  go_enter Tryd.func32, Tryd.ntmps32
  go_wp2_with (go_at_call 30; refine (find_any s i i rfl v r room (posKey p) _ HL.out HS.out hi HLen.out HM.out).mono ?_; rintro e w1 ⟨rfl, hE⟩; have HE := Lib.hid hE; clear hE)
  have HS1 := Lib.hid (store_ext HS.out HE.out)
  have HA1 := Lib.hid (scanAt_upd (fp := fun _ => False) HA.out (upd_of_ext HE.out) (fun _ _ h => h))
  clear q1 q2 q3a q3b q3c
  have q1 : w1.cell? ⟨b1, 0, none⟩ = some (.pointer (some ⟨s, 0, none⟩)) := block_cell HA1.out.h1 0
  have q2 : w1.cell? ⟨b2, 0, none⟩ = some (.int .i64 i) := block_cell HA1.out.h2 0
  have s0 := store_cell HS1.out i hi
  rw [HV.out] at s0
  have ls := World.block_lt_of_cell? _ _ s0
  have l1 := block_lt HA1.out.h1
  have l2 := block_lt HA1.out.h2
  have hlb : lb (↑i) (r i) (posKey p) = 0 := by rw [HR.out]; rfl
  rw [hlb]
  clear hlb
  have hgc := cell_grown
  refine wp_region_free 10 [0, 1, 2, 3, 4, 5, 6, 7, 8, 9] [] (by kernel_rfl) (by kernel_rfl) ?_
  repeat (refine wpLoose_step rfl (fun K hK => ?_); (try simp only [Oper.quietAt, Oper.quietUpon]); go_simp; (refine hK _ ?_; clear hK K))
  refine wpLoose_nil (wpFresh_nil (fun w3 hE3 _ => ?_))
  have HE3 := Lib.hid hE3
  clear hE3
  simp only [List.drop_succ_cons, List.drop_zero]
  refine wpList_nil ?_
  go_wp2
  go_loopw [26] (fun x wr => x = .int .i64 0 ∧ Ext w wr) (fun x _ => 0)
  case atStart => exact ⟨rfl, ext_trans HE.out HE3.out⟩
  case round =>
    obtain ⟨rfl, hE⟩ := hrel
    have HEr := Lib.hid hE
    clear hE
    go_wp2
    go_end0
    exact ⟨⟨_, rfl⟩, HEr.out⟩

theorem scan1_any (yv : Value) (hyv : YForm yv) (fp : Nat → Prop) (J Jx : List Key → World → Prop) (s i : Nat) (o : Int) (ho : o = (i : Int)) (hi : i < 3) (v : Nat → Value) (r : Nat → List Key) (room : Int) (p : Key) (b1 b2 b3 b4 : Nat) (w : World)
    (hL : Laid w) (hS : StoreAt w s v r room) (hm : (r i).length ≤ 1000000) (hmono : Rising i (r i)) (hA : ScanAt w s o p b1 b2 b3 b4)
    (hfS : ∀ b, fpS s v b → ¬ fp b) (hfb : ∀ b, boxes b1 b2 b3 b4 b → ¬ fp b) (hf0 : ¬ fp 0) (hf1 : ¬ fp 1)
    (hJ : ∀ pre W1 W2, J pre W1 → Ext W1 W2 → J pre W2)
    (hY : ∀ pre x W1, J pre W1 → pre ++ [x] <+: scanned o p (r i) → Told yv x W1 (ToldPost fp J Jx pre x W1)) (h0 : J [] w) :
    Calls Tryd.prog 32 #[yv, .pointer (some ⟨b1, 0, none⟩), .pointer (some ⟨b2, 0, none⟩), .pointer (some ⟨b3, 0, none⟩), .pointer (some ⟨b4, 0, none⟩)] w fun e W' => (∃ v, e = .returned v) ∧
      (J (scanned o p (r i)) W' ∨ ∃ pre, pre <+: scanned o p (r i) ∧ Jx pre W') := by
  subst ho
  rcases row_cases (hS.row i hi) with ⟨h1, h2⟩ | ⟨g, cap, cur, h1, _⟩
  · refine (scan1_nil yv s i hi v r room p b1 b2 b3 b4 w hL hS hm hmono hA h1 h2).mono ?_
    rintro e W' ⟨hv, hE⟩
    refine ⟨hv, .inl ?_⟩
    rw [h2]
    exact hJ _ _ _ h0 hE
  · exact scan1_row yv hyv fp J Jx s i hi v r room p b1 b2 b3 b4 w hL hS hm hmono hA hfS hfb hf0 hf1 hJ hY h0 g cap h1
end Go.Proofs.YtfaegjlolhpofaaDoor
