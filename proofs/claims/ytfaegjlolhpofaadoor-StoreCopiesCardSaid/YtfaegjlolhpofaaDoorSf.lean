/- Count. -/
import Derived.Test.YtfaegjlolhpofaaDoorSe
namespace Go.Proofs.YtfaegjlolhpofaaDoor
open Go.RowKit Go.Sort Go.Shelf
set_option maxHeartbeats 800000
attribute [local go_sem] Oper.semAt_some

theorem grown_of_ext {W W' : World} (h : Ext W W') : W.grownBy W' none := ⟨Below.os h, Below.tape h, Below.output h, Below.size h, fun k hk _ => Below.block h k hk⟩

theorem scan_seq (n s i : Nat) (hi : i < 3) (o : Int) (ho : o = (i : Int)) (v : Nat → Value) (r : Nat → List Key) (room : Int) (p : Key) (b1 b2 b3 b4 : Nat) (w : World) (fp : Nat → Prop)
    (hL : Laid w) (hS : StoreAt w s v r room) (hm : (r i).length ≤ 1000000) (hmono : Rising i (r i)) (hA : ScanAt w s o p b1 b2 b3 b4)
    (hfS : ∀ b, fpS s v b → ¬ fp b) (hfb : ∀ b, boxes b1 b2 b3 b4 b → ¬ fp b) (hf0 : ¬ fp 0) (hf1 : ¬ fp 1) :
    SeqStopsK Fence.wide n Tryd.prog 32 #[.pointer (some ⟨b1, 0, none⟩), .pointer (some ⟨b2, 0, none⟩), .pointer (some ⟨b3, 0, none⟩), .pointer (some ⟨b4, 0, none⟩)] (fun x : Key => #[K3 x.a x.b x.c]) (Upd fp)
      (fun xs => xs = scanned o p (r i)) (fun _ => True) (scanned o p (r i)).length w := by
  intro l J Jx W hW hJ _ hY h0
  have hE : Ext w W := hW
  refine callsIn_wide.2 ?_
  refine (scan1_any (.func (.yield l) #[] #[]) (.inr ⟨l, rfl⟩) fp J Jx s i o ho hi v r room p b1 b2 b3 b4 W (laid_ext hL hE) (store_ext hS hE) hm hmono (scanAt_upd (fp := fun _ => False) hA (upd_of_ext hE) (fun _ _ h => h)) hfS hfb hf0 hf1
    (fun pre W1 W2 h1 h2 => hJ pre W1 W2 none h1 (grown_of_ext h2) (fun _ e => by cases e)) (fun pre x W1 h1 h2 => ⟨fun f lb e => (by cases e), fun l' e => ?_⟩) h0).mono ?_
  · cases e
    have hlen : pre.length < (scanned o p (r i)).length := by have := h2.length_le; simp at this; omega
    exact yield_wide (hY pre x W1 h1 hlen)
  · rintro e W' ⟨h1, h2 | ⟨pre, _, h3⟩⟩
    · exact ⟨h1, .inl ⟨_, rfl, h2⟩⟩
    · exact ⟨h1, .inr ⟨pre, trivial, h3⟩⟩

theorem zip_one (t : Array Value) (i : Tmp) (u : Value) : Array.foldl (fun (t : Array Value) (x : Tmp × Value) => t.setIfInBounds x.fst x.snd) t (#[i].zip #[u]) = t.setIfInBounds i u := by
  have : (#[i].zip #[u]) = #[(i, u)] := by simp
  rw [this]
  simp
theorem scanned_le (o : Int) (p : Key) (ks : List Key) : (scanned o p ks).length ≤ ks.length := by
  unfold scanned
  exact Nat.le_trans (List.takeWhile_sublist _).length_le (by simp)

theorem count_any (s i : Nat) (hi : i < 3) (v : Nat → Value) (r : Nat → List Key) (room : Int) (p : Key) (ho : ordP p = (i : Int)) (w : World)
    (hL : Laid w) (hS : StoreAt w s v r room) (hm : (r i).length ≤ 1000000) (hmono : Rising i (r i)) :
    Calls Tryd.prog 21 #[.pointer (some ⟨s, 0, none⟩), K3 p.a p.b p.c] w fun e w' => e = .returned (.int .i64 (scanned (ordP p) p (r i)).length) ∧ Ext w w' := by
  have HL := Lib.hid hL
  have HS := Lib.hid hS
  have HM := Lib.hid hmono
  have HLen := Lib.hid hm
  have HO := Lib.hid ho
  clear hL hS hmono hm ho
  refine (callsIn_wide (n := 8)).1 ?_
  refine callsIn_of_wp_marks Tryd.func21 rfl trivial ?_ rfl
  simp only [Tryd.ntmps21, List.size_toArray, List.length_cons, List.length_nil, Nat.reduceAdd, Nat.reduceSub, Array.replicate_succ, Array.replicate_zero, List.push_toArray, List.append_toArray, List.nil_append, List.cons_append]
  gi_wp2_with (refine ⟨trivial, ?_⟩; gi_at_call 17; refine (callsIn_wide.2 (scan_any s p _ ?_)).mono ?_; (exact laid_ext HL.out (ext_alloc (ext_alloc (ext_refl _) _) _)); rintro e w1 ⟨b1, b2, b3, b4, rfl, hA, hb, hE⟩; have HE := Lib.hid hE; have HA := Lib.hid hA; have HB := Lib.hid hb; clear hE hA hb)
  have hc0 : w1.heap[w.heap.size + 1]? = some (.cells #[.int .i64 0] 3 (0, 0)) := by
    refine (ext_block HE.out (by simp)).trans ?_
    have := heap_alloc_new (w.alloc (.cells #[.int .i64 p.a, .int .i64 p.b, .int .i64 p.c] 26)) (.cells #[.int .i64 0] 3)
    rwa [World.size_alloc] at this
  have HC0 := Lib.hid hc0
  have HB0 := Lib.hid (show Ext w w1 from ext_trans (ext_alloc (ext_alloc (ext_refl _) _) _) HE.out)
  have hs1 := ext_size HE.out
  rw [World.size_alloc, World.size_alloc] at hs1
  have HS1 := Lib.hid hs1
  clear hc0 hs1
  have hlen := scanned_le (ordP p) p (r i)
  have hlen2 : (scanned (ordP p) p (r i)).length ≤ 1000000 := Nat.le_trans hlen HLen.out
  have HLen2 := Lib.hid hlen2
  clear hlen hlen2
  have hfp : ∀ b, b < w.heap.size → ¬ (b = w.heap.size + 1 ∨ w1.heap.size ≤ b) := fun b h1 h2 => by have := HS1.out; omega
  refine wpIn_rangeFunc_ownF (F := Fence.wide) rfl (by decide) (gf := 32) rfl trivial (enters_of Tryd.func32 (by kernel_rfl) rfl)
    (scan_seq _ s i hi (ordP p) HO.out v r room p b1 b2 b3 b4 w1 (fun b => b = w.heap.size + 1 ∨ w1.heap.size ≤ b) (laid_ext HL.out HB0.out) (store_ext HS.out HB0.out) HLen.out HM.out HA.out
      (fun b h => hfp b (fpS_lt HS.out h)) (fun b h h2 => by
        have h3 := HB.out b h
        rw [World.size_alloc, World.size_alloc] at h3
        have h4 : b < w1.heap.size := by rcases h with rfl | rfl | rfl | rfl <;> first | exact block_lt HA.out.h1 | exact block_lt HA.out.h2 | exact block_lt HA.out.h3 | exact block_lt HA.out.h4
        omega) (hfp 0 (by have := HL.out.1; omega)) (hfp 1 HL.out.1))
    (fun h k => upd_trans h k (fun _ _ h => h)) (fun W l o o' hl _ _ _ => upd_mono (upd_grown (grownBy_putObj' W l o')) (fun b _ e => .inr (by cases e; exact hl))) (Below.refl _ _) (fun _ => rfl)
    (fun pre W => (W.cell? ⟨w.heap.size + 1, 0, none⟩ = some (.int .i64 (pre.length : Nat)) ∧ W.frozen? ⟨w.heap.size + 1, 0, none⟩ = false) ∧ Below w.heap.size w W)
    (fun _ _ _ => False)
    (OwnFrom.and (Own.from (fun s A B row hs hg hr => ⟨cell_kept hs.1 hg hr, (frozen_kept hs.1 hg hr).trans hs.2⟩) _) (ownFrom_below (Nat.le_refl _) (by have := HS1.out; omega)))
    (fun _ _ _ _ _ hs _ _ => hs)
    ⟨⟨block_cell HC0.out 0, block_frozen HC0.out 0⟩, HB0.out⟩
    (fun x => { tmps := #[.pointer (some ⟨s, 0, none⟩), K3 p.a p.b p.c, undef, .pointer (some ⟨w.heap.size, 0, none⟩), .int .i64 0, .pointer (some ⟨w.heap.size + 1, 0, none⟩), .pointer (some ⟨s, 0, none⟩), K3 p.a p.b p.c,
      .func (.func 32) #[] #[.pointer (some ⟨b1, 0, none⟩), .pointer (some ⟨b2, 0, none⟩), .pointer (some ⟨b3, 0, none⟩), .pointer (some ⟨b4, 0, none⟩)], K3 x.a x.b x.c, undef, undef, undef], defers := [] }) ?assign ?body ?done ?stop
  case assign =>
    intro l x W K hK
    gi_wp2
    rw [zip_one]
    exact hK
  case body =>
    rintro l pre x W ⟨⟨hc, hf⟩, hB⟩ hlt
    have hl6 : pre.length ≤ 1000000 := by have := HLen2.out; omega
    have hsum : IntKind.i64.wrap ((pre.length : Int) + 1) = (pre.length : Int) + 1 := IntWalk.i64_in _ (by omega)
    have HBB := Lib.hid hB
    have HC := Lib.hid hc
    clear hB hlt
    gi_wp2
    exact ⟨KeepsOthers.setCell _ _ _, upd_mono (upd_setCell _) (fun b _ h => .inl h), ⟨by rw [World.cell?_setCell_same' _ _ _ (by rw [HC.out]; rfl)]; simp, by rw [World.frozen?_setCell]; exact hf⟩, HBB.out.setCell (p := ⟨w.heap.size + 1, 0, none⟩) (by simp) _⟩
  case done =>
    rintro D ys W hD rfl ⟨⟨hc, _⟩, hB⟩ hK
    have HBB := Lib.hid hB
    have HK := Lib.hid hK
    clear hB hK
    gi_wp2
    refine ⟨by simp, .inl ⟨_, _, rfl, run_takeDeferred HK.out, ?_⟩⟩
    exact ⟨_, results_tmp rfl _ _ _, rfl, HBB.out.trans (belowK_b (w := w) (Nat.le_refl _) W D _ _ (by have := HS1.out; omega) HK.out rfl rfl)⟩
  case stop =>
    rintro D c pre W _ _ h _
    exact h.elim
end Go.Proofs.YtfaegjlolhpofaaDoor
