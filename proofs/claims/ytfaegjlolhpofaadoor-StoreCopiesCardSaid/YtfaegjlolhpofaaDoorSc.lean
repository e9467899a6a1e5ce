/- Scan: what it hands back. -/
import Derived.Test.YtfaegjlolhpofaaDoorWl
namespace Go.Proofs.YtfaegjlolhpofaaDoor
open Go.RowKit Go.Sort
set_option maxHeartbeats 800000

/-- where a pattern's keys begin -/
def posKey (p : Key) : Key := ⟨max p.a 0, max p.b 0, max p.c 0⟩

/-- what a scan has captured -/
structure ScanAt (w : World) (s : Nat) (o : Int) (p : Key) (b1 b2 b3 b4 : Nat) : Prop where
  h1 : w.heap[b1]? = some (.cells #[.pointer (some ⟨s, 0, none⟩)] 34 (0, 0))
  h2 : w.heap[b2]? = some (.cells #[.int .i64 o] 3 (0, 0))
  h3 : w.heap[b3]? = some (.cells (key3 (posKey p)) 25 (0, 0))
  h4 : w.heap[b4]? = some (.cells (key3 p) 26 (0, 0))
def boxes (b1 b2 b3 b4 b : Nat) : Prop := b = b1 ∨ b = b2 ∨ b = b3 ∨ b = b4
theorem scanAt_upd {fp : Nat → Prop} {w w' : World} {s : Nat} {o : Int} {p : Key} {b1 b2 b3 b4 : Nat} (h : ScanAt w s o p b1 b2 b3 b4) (hu : Upd fp w w') (hn : ∀ b, boxes b1 b2 b3 b4 b → ¬ fp b) : ScanAt w' s o p b1 b2 b3 b4 :=
  ⟨(hu.block _ (block_lt h.h1) (hn _ (.inl rfl))).trans h.h1, (hu.block _ (block_lt h.h2) (hn _ (.inr (.inl rfl)))).trans h.h2, (hu.block _ (block_lt h.h3) (hn _ (.inr (.inr (.inl rfl))))).trans h.h3, (hu.block _ (block_lt h.h4) (hn _ (.inr (.inr (.inr rfl))))).trans h.h4⟩

def ScanPost (s : Nat) (p : Key) (w : World) (e : Ending) (w' : World) : Prop :=
  ∃ b1 b2 b3 b4, e = .returned (.func (.func 32) #[] #[.pointer (some ⟨b1, 0, none⟩), .pointer (some ⟨b2, 0, none⟩), .pointer (some ⟨b3, 0, none⟩), .pointer (some ⟨b4, 0, none⟩)]) ∧
    ScanAt w' s (ordP p) p b1 b2 b3 b4 ∧ (∀ b, boxes b1 b2 b3 b4 b → w.heap.size ≤ b) ∧ Ext w w'

theorem scan_end {s : Nat} {p : Key} {w w0 w1 : World} {x y z : Int} (hw : w0.heap.size = w.heap.size + 2) (hw0 : Ext w w0) (hE : Ext w0 w1) (g1 : w1.heap[w.heap.size]? = some (.cells #[.pointer (some ⟨s, 0, none⟩)] 34 (0, 0)))
    (g4 : w1.heap[w.heap.size + 1]? = some (.cells (key3 p) 26 (0, 0))) (hx : max p.a 0 = x) (hy : max p.b 0 = y) (hz : max p.c 0 = z) (e : Ending)
    (he : e = .returned (.func (.func 32) #[] #[.pointer (some ⟨w.heap.size, 0, none⟩), .pointer (some ⟨w1.heap.size, 0, none⟩), .pointer (some ⟨w1.heap.size + 1, 0, none⟩), .pointer (some ⟨w.heap.size + 1, 0, none⟩)])) :
    ScanPost s p w e ((w1.alloc (.cells #[.int .i64 (ordP p)] 3)).alloc (.cells #[.int .i64 x, .int .i64 y, .int .i64 z] 25)) := by
  have hs := ext_size hE
  have hE2 : Ext w1 ((w1.alloc (.cells #[.int .i64 (ordP p)] 3)).alloc (.cells #[.int .i64 x, .int .i64 y, .int .i64 z] 25)) := ext_alloc (ext_alloc (ext_refl _) _) _
  subst hx hy hz
  refine ⟨_, _, _, _, he, ⟨(ext_block hE2 (block_lt g1)).trans g1, ?_, ?_, (ext_block hE2 (block_lt g4)).trans g4⟩, fun b hb => ?_, ext_trans hw0 (ext_trans hE hE2)⟩
  · exact (Below.heap_alloc _ _ _ (by simp)).trans (heap_alloc_new w1 _)
  · have := heap_alloc_new (w1.alloc (.cells #[.int .i64 (ordP p)] 3)) (.cells #[.int .i64 (max p.a 0), .int .i64 (max p.b 0), .int .i64 (max p.c 0)] 25)
    rw [World.size_alloc] at this
    exact this
  · rcases hb with rfl | rfl | rfl | rfl <;> omega

theorem scan_any (s : Nat) (p : Key) (w : World) (hL : Laid w) : Calls Tryd.prog 17 #[.pointer (some ⟨s, 0, none⟩), K3 p.a p.b p.c] w (ScanPost s p w) := by
  have HL := Lib.hid hL
  clear hL
  have x0 := idx0
  have x1 := idx1
  have x2 := idx2
  have hb1 := heap_alloc_new w (.cells #[.pointer (some ⟨s, 0, none⟩)] 34)
  have hb4 := heap_alloc_new (w.alloc (.cells #[.pointer (some ⟨s, 0, none⟩)] 34)) (.cells #[.int .i64 p.a, .int .i64 p.b, .int .i64 p.c] 26)
  have hb1' := (Below.heap_alloc (w.alloc (.cells #[.pointer (some ⟨s, 0, none⟩)] 34)) (.cells #[.int .i64 p.a, .int .i64 p.b, .int .i64 p.c] 26) w.heap.size (by simp)).trans hb1
  rw [World.size_alloc] at hb4
  have HB1 := Lib.hid hb1'
  have HB4 := Lib.hid hb4
  clear hb1 hb1' hb4
  go_enter Tryd.func17, Tryd.ntmps17
  go_wp2_with (go_at_call 10; refine (order_any p _ ?_).mono ?_; (exact laid_ext HL.out (ext_alloc (ext_alloc (ext_refl _) _) _)); rintro e w1 ⟨rfl, hE⟩; have HE := Lib.hid hE; clear hE; have g1 := (ext_block HE.out (block_lt HB1.out)).trans HB1.out; have g4 := (ext_block HE.out (block_lt HB4.out)).trans HB4.out; have G1 := Lib.hid g1; have G4 := Lib.hid g4; clear g1 g4; have q0 := block_cell G4.out 0; have q1 := block_cell G4.out 1; have q2 := block_cell G4.out 2; have l4 := block_lt G4.out)
  all_goals (go_ret; exact scan_end (by simp) (ext_alloc (ext_alloc (ext_refl _) _) _) HE.out G1.out G4.out (by omega) (by omega) (by omega) _ rfl)
end Go.Proofs.YtfaegjlolhpofaaDoor
