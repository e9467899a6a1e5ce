/- Add. -/
import Derived.Test.YtfaegjlolhpofaaDoorWk
import Derived.Test.YtfaegjlolhpofaaDoorMix
namespace Go.Proofs.YtfaegjlolhpofaaDoor
open Go.RowKit Go.Sort
set_option maxHeartbeats 800000

def setN {α : Type} (f : Nat → α) (j : Nat) (x : α) : Nat → α := fun i => if i = j then x else f i
theorem setN_self {α : Type} (f : Nat → α) (j : Nat) (x : α) : setN f j x j = x := by simp [setN]
theorem setN_ne {α : Type} (f : Nat → α) (j i : Nat) (x : α) (h : i ≠ j) : setN f j x i = f i := by simp [setN, h]

theorem heap_setCell_at {w : World} {s j : Nat} {u : Value} {cs : Array Value} {t : TypeId} {fr : Nat × Nat} (h : w.heap[s]? = some (.cells cs t fr)) : (w.setCell ⟨s, j, none⟩ u).heap[s]? = some (.cells (cs.setIfInBounds j u) t fr) := by
  simp [World.setCell, Array.getElem?_modify, h]

theorem row_form {w : World} {v : Value} {ks : List Key} (h : rowOf w v ks) : ∃ a n c, v = .slice a n c := by
  rcases row_cases h with ⟨h, _⟩ | ⟨g, cap, cur, h, _⟩
  · exact ⟨_, _, _, h⟩
  · exact ⟨_, _, _, h⟩

theorem store_put {w1 w2 : World} {s j : Nat} {v : Nat → Value} {r : Nat → List Key} {room : Int} {v2 : Value} {ks' : List Key} (hS : StoreAt w1 s v r room) (hj : j < 3) (hrow : rowOf w2 v2 ks') (hu : Upd (fun b => (v j).ownBlock = some b) w1 w2)
    (hl : v2.ownBlock = (v j).ownBlock ∨ ∃ g, v2.ownBlock = some g ∧ w1.heap.size ≤ g) : StoreAt (w2.setCell ⟨s, j, none⟩ v2) s (setN v j v2) (setN r j ks') room := by
  have hs1 : s < w1.heap.size := block_lt hS.blk
  have hb2 : w2.heap[s]? = some (.cells #[v 0, v 1, v 2, .int .i64 room] 65 (0, 0)) := (hu.block s hs1 (hS.off j hj)).trans hS.blk
  have hoff2 : v2.ownBlock ≠ some s := by
    rcases hl with h | ⟨g, h, hg⟩
    · rw [h]; exact hS.off j hj
    · rw [h]; intro he; cases he; omega
  have hlt : ∀ i, i < 3 → ∀ g, (v i).ownBlock = some g → g < w1.heap.size := fun i hi g hg => (World.ownsRow.lt (hS.row i hi) g hg).2
  refine ⟨?_, fun i hi => ?_, fun i hi => ?_, fun i k hi hk hik g hg => ?_, hS.high.1, fun i hi g hg => ?_⟩
  · rw [heap_setCell_at hb2]
    obtain rfl | rfl | rfl : j = 0 ∨ j = 1 ∨ j = 2 := by omega
    all_goals simp [setN]
  · by_cases hij : i = j
    · subst hij
      rw [setN_self, setN_self]
      exact ownsRow_setCell_other hrow hoff2 _
    · rw [setN_ne _ _ _ _ hij, setN_ne _ _ _ _ hij]
      exact ownsRow_setCell_other (row_upd (hS.row i hi) hu (fun b hb hjb => hS.apart i j hi hj hij b hb hjb)) (hS.off i hi) _
  · by_cases hij : i = j
    · subst hij; rw [setN_self]; exact hoff2
    · rw [setN_ne _ _ _ _ hij]; exact hS.off i hi
  · by_cases hij : i = j
    · subst hij
      rw [setN_self] at hg
      rw [setN_ne _ _ _ _ (Ne.symm hik)]
      rcases hl with h | ⟨g', h, hg'⟩
      · rw [h] at hg; exact hS.apart i k hi hk hik g hg
      · rw [h] at hg; cases hg
        intro he; have := hlt k hk _ he; omega
    · rw [setN_ne _ _ _ _ hij] at hg
      by_cases hkj : k = j
      · subst hkj
        rw [setN_self]
        rcases hl with h | ⟨g', h, hg'⟩
        · rw [h]; exact hS.apart i k hi hk hik g hg
        · rw [h]; intro he; cases he; have := hlt i hi _ hg; omega
      · rw [setN_ne _ _ _ _ hkj]; exact hS.apart i k hi hk hik g hg
  · by_cases hij : i = j
    · subst hij
      rw [setN_self] at hg
      rcases hl with h | ⟨g', h, hg'⟩
      · rw [h] at hg; exact hS.high.2 i hi g hg
      · rw [h] at hg; cases hg; have := hS.high.1; omega
    · rw [setN_ne _ _ _ _ hij] at hg
      exact hS.high.2 i hi g hg

/-- the blocks of a store -/
def fpS (s : Nat) (v : Nat → Value) (b : Nat) : Prop := b = s ∨ ∃ i, i < 3 ∧ (v i).ownBlock = some b
theorem fpS_lt {w : World} {s : Nat} {v : Nat → Value} {r : Nat → List Key} {room : Int} (h : StoreAt w s v r room) {b : Nat} (hb : fpS s v b) : b < w.heap.size := by
  rcases hb with rfl | ⟨i, hi, hb⟩
  · exact block_lt h.blk
  · exact (World.ownsRow.lt (h.row i hi) b hb).2

def insTo (r : Nat → List Key) (k : Key) (j : Nat) : Nat → List Key := fun i => if i < j then insAt (r i) (lb i (r i) k) k else r i
theorem insTo_zero (r : Nat → List Key) (k : Key) : insTo r k 0 = r := by funext i; simp [insTo]
theorem insTo_self (r : Nat → List Key) (k : Key) (j : Nat) : insTo r k j j = r j := by simp [insTo]
theorem insTo_succ (r : Nat → List Key) (k : Key) (j : Nat) : setN (insTo r k j) j (insAt (r j) (lb j (r j) k) k) = insTo r k (j + 1) := by
  funext i
  unfold setN insTo
  by_cases h : i = j
  · subst h; simp
  · by_cases h2 : i < j
    · simp [h, h2, show i < j + 1 by omega]
    · simp [h, h2, show ¬ i < j + 1 by omega]

theorem lb_le (o : Int) (ks : List Key) (t : Key) : lb o ks t ≤ ks.length := by
  unfold lb; exact (List.takeWhile_sublist _).length_le

theorem find_ks (s i : Nat) (o : Int) (hoi : o = (i : Int)) (v : Nat → Value) (r : Nat → List Key) (ks : List Key) (hr : r i = ks) (room : Int) (t : Key) (w : World) (hL : Laid w) (hS : StoreAt w s v r room) (hi : i < 3) (hm : ks.length ≤ 1000000) (hmono : Rising o ks) :
    Calls Tryd.prog 30 #[.pointer (some ⟨s, 0, none⟩), .int .i64 o, K3 t.a t.b t.c] w fun e w' => e = .returned (.tuple #[.int .i64 (lb o ks t), .bool (foundB o ks t (lb o ks t))]) ∧ Ext w w' := by
  subst hr; exact find_any s i o hoi v r room t w hL hS hi hm hmono

/-- what a call leaves of a store: its blocks alone have turned -/
structure Kept (s : Nat) (v v' : Nat → Value) (w w' : World) : Prop where
  upd : Upd (fpS s v) w w'
  fresh : ∀ i, i < 3 → ∀ g, (v' i).ownBlock = some g → fpS s v g ∨ w.heap.size ≤ g
theorem kept_ext {s : Nat} {v : Nat → Value} {w w' : World} (h : Ext w w') : Kept s v v w w' := ⟨upd_of_ext h, fun i hi _ hg => .inl (.inr ⟨i, hi, hg⟩)⟩
theorem kept_trans {s : Nat} {v v' v'' : Nat → Value} {a b c : World} (h : Kept s v v' a b) (k : Kept s v' v'' b c) : Kept s v v'' a c := by
  have hfp : ∀ i, i < a.heap.size → fpS s v' i → fpS s v i := fun i hi hf => by
    rcases hf with rfl | ⟨j, hj, hf⟩
    · exact .inl rfl
    · rcases h.fresh j hj i hf with h1 | h1
      · exact h1
      · omega
  refine ⟨upd_trans h.upd k.upd hfp, fun i hi g hg => ?_⟩
  rcases k.fresh i hi g hg with h1 | h1
  · by_cases hga : g < a.heap.size
    · exact .inl (hfp g hga h1)
    · exact .inr (by omega)
  · exact .inr (Nat.le_trans h.upd.size h1)
theorem kept_put {w1 w2 : World} {s j : Nat} {v : Nat → Value} {v2 : Value} (hj : j < 3) (hu : Upd (fun b => (v j).ownBlock = some b) w1 w2)
    (hl : v2.ownBlock = (v j).ownBlock ∨ ∃ g, v2.ownBlock = some g ∧ w1.heap.size ≤ g) : Kept s v (setN v j v2) w1 (w2.setCell ⟨s, j, none⟩ v2) := by
  refine ⟨upd_trans (upd_mono hu (fun i _ h => .inr ⟨j, hj, h⟩)) (upd_setCell _) (fun i _ h => .inl h), fun i hi g hg => ?_⟩
  by_cases hij : i = j
  · subst hij
    rw [setN_self] at hg
    rcases hl with h | ⟨g', h, hg'⟩
    · rw [h] at hg; exact .inl (.inr ⟨i, hi, hg⟩)
    · rw [h] at hg; cases hg; exact .inr hg'
  · rw [setN_ne _ _ _ _ hij] at hg
    exact .inl (.inr ⟨i, hi, hg⟩)

theorem laid_upd {fp : Nat → Prop} {w w1 : World} (h : Laid w) (hu : Upd fp w w1) (h0 : ¬ fp 0) (h1 : ¬ fp 1) : Laid w1 := by
  obtain ⟨sz, c0, c1, c2, c3, c4, c5, c6, c7, p0, p1, p2, p3, p4, p5, p6, p7, p8⟩ := h
  have a := fun o => upd_cell hu (b := 0) (by omega) h0 o
  have b := fun o => upd_cell hu (b := 1) sz h1 o
  exact ⟨Nat.lt_of_lt_of_le sz hu.size, (a _).trans c0, (a _).trans c1, (a _).trans c2, (a _).trans c3, (a _).trans c4, (a _).trans c5, (a _).trans c6, (a _).trans c7,
    (b _).trans p0, (b _).trans p1, (b _).trans p2, (b _).trans p3, (b _).trans p4, (b _).trans p5, (b _).trans p6, (b _).trans p7, (b _).trans p8⟩
theorem fpS_high {w : World} {s : Nat} {v : Nat → Value} {r : Nat → List Key} {room : Int} (h : StoreAt w s v r room) {b : Nat} (hb : fpS s v b) : 1 < b := by
  rcases hb with rfl | ⟨i, hi, hb⟩
  · exact h.high.1
  · exact h.high.2 i hi b hb
theorem laid_kept {w w1 : World} {s : Nat} {v v' : Nat → Value} {r : Nat → List Key} {room : Int} (h : Laid w) (hS : StoreAt w s v r room) (hk : Kept s v v' w w1) : Laid w1 :=
  laid_upd h hk.upd (fun h0 => by have := fpS_high hS h0; omega) (fun h0 => by have := fpS_high hS h0; omega)

theorem add_neg (s : Nat) (k : Key) (w : World) (h : k.a < 0 ∨ k.b < 0 ∨ k.c < 0) : Calls Tryd.prog 16 #[.pointer (some ⟨s, 0, none⟩), K3 k.a k.b k.c] w fun e w' => e = .returned (.int .i64 2) ∧ Ext w w' := by
  by_cases ha : k.a < 0
  · go_enter Tryd.func16, Tryd.ntmps16
    go_wp2
    go_ret
    exact ⟨rfl, ext_alloc (ext_refl _) _⟩
  · by_cases hb : k.b < 0
    · go_enter Tryd.func16, Tryd.ntmps16
      go_wp2
      go_ret
      exact ⟨rfl, ext_alloc (ext_refl _) _⟩
    · have hc : k.c < 0 := by omega
      go_enter Tryd.func16, Tryd.ntmps16
      go_wp2
      go_ret
      exact ⟨rfl, ext_alloc (ext_refl _) _⟩

theorem add_there (s : Nat) (v : Nat → Value) (r : Nat → List Key) (room : Int) (k : Key) (w : World) (hL : Laid w) (hS : StoreAt w s v r room) (hm : (r 0).length ≤ 1000000) (hmono : Rising 0 (r 0)) (ha : 0 ≤ k.a) (hb : 0 ≤ k.b) (hc : 0 ≤ k.c)
    (hf : foundB 0 (r 0) k (lb 0 (r 0) k) = true) : Calls Tryd.prog 16 #[.pointer (some ⟨s, 0, none⟩), K3 k.a k.b k.c] w fun e w' => e = .returned (.int .i64 5) ∧ Ext w w' := by
  have HL := Lib.hid hL
  have HS := Lib.hid hS
  have HM := Lib.hid hmono
  have HLen := Lib.hid hm
  clear hL hS hmono hm
  have ha' : ¬ k.a < 0 := by omega
  have hb' : ¬ k.b < 0 := by omega
  have hc' : ¬ k.c < 0 := by omega
  go_enter Tryd.func16, Tryd.ntmps16
  go_wp2_with (go_at_call 19; refine (has_any s v r room k _ ?_ ?_ HLen.out HM.out).mono ?_; (exact laid_ext HL.out (ext_alloc (ext_refl _) _)); (exact store_ext HS.out (ext_alloc (ext_refl _) _)); rintro e w1 ⟨rfl, hE⟩)
  have HE := Lib.hid hE
  clear hE
  go_ret
  exact ⟨rfl, ext_trans (ext_alloc (ext_refl _) _) HE.out⟩
end Go.Proofs.YtfaegjlolhpofaaDoor
