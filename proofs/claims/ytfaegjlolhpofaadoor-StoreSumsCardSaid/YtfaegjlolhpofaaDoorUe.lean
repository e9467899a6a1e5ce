/- What lies in memory while a law plays: a store, the document's list in its box, other boxes. -/
import Derived.Test.YtfaegjlolhpofaaDoorUv
import Derived.Test.YtfaegjlolhpofaaDoorWo
namespace Go.Proofs.YtfaegjlolhpofaaDoor
open Go.RowKit Go.Sort
set_option maxHeartbeats 800000

abbrev BoxL := List (Nat × Array Value × TypeId)
def Boxes (B : BoxL) (W : World) : Prop := ∀ z ∈ B, W.heap[z.1]? = some (.cells z.2.1 z.2.2 (0, 0)) ∧ z.2.2 ≠ 25 ∧ z.2.2 ≠ 65 ∧ z.2.2 ≠ 47
theorem boxes_ext {B : BoxL} {W W' : World} (h : Boxes B W) (hE : Ext W W') : Boxes B W' := fun z hz => ⟨(ext_block hE (block_lt (h z hz).1)).trans (h z hz).1, (h z hz).2⟩
theorem boxes_upd {B : BoxL} {W W' : World} {F : Nat → Prop} {s : Nat} {L : List Key} {room : Int} (h : Boxes B W) (hS : St W F s L room) (hu : Upd F W W') : Boxes B W' := fun z hz =>
  ⟨(hu.block _ (block_lt (h z hz).1) (st_off hS (h z hz).1 (h z hz).2.1 (h z hz).2.2.1)).trans (h z hz).1, (h z hz).2⟩
theorem boxes_nil {W : World} : Boxes [] W := fun _ h => by cases h
theorem boxes_cons {B : BoxL} {W : World} {b : Nat} {cs : Array Value} {t : TypeId} (h : Boxes B W) (hb : W.heap[b]? = some (.cells cs t (0, 0))) (h1 : t ≠ 25) (h2 : t ≠ 65) (h3 : t ≠ 47) : Boxes ((b, cs, t) :: B) W := fun z hz => by
  rcases List.mem_cons.1 hz with rfl | hz
  · exact ⟨hb, h1, h2, h3⟩
  · exact h z hz
theorem boxes_tail {B : BoxL} {W : World} {z : Nat × Array Value × TypeId} (h : Boxes (z :: B) W) : Boxes B W := fun y hy => h y (List.mem_cons_of_mem _ hy)
theorem boxes_head {B : BoxL} {W : World} {b : Nat} {cs : Array Value} {t : TypeId} (h : Boxes ((b, cs, t) :: B) W) : W.heap[b]? = some (.cells cs t (0, 0)) := (h _ (List.mem_cons_self ..)).1
theorem boxes_2 {B : BoxL} {W : World} {z : Nat × Array Value × TypeId} {b : Nat} {cs : Array Value} {t : TypeId} (h : Boxes (z :: (b, cs, t) :: B) W) : W.heap[b]? = some (.cells cs t (0, 0)) := boxes_head (boxes_tail h)

/-- a store, and boxes -/
structure EnvS (w : World) (s : Nat) (room : Int) (L : List Key) (F : Nat → Prop) (B : BoxL) (W : World) : Prop where
  st : St W F s L room
  boxes : Boxes B W
  ext : Ext w W
  low : ∀ b, F b → w.heap.size ≤ b
theorem envS_ext {w : World} {s : Nat} {room : Int} {L : List Key} {F : Nat → Prop} {B : BoxL} {W W' : World} (h : EnvS w s room L F B W) (hE : Ext W W') : EnvS w s room L F B W' := ⟨st_ext h.st hE, boxes_ext h.boxes hE, ext_trans h.ext hE, h.low⟩
theorem envS_wrote {w : World} {s : Nat} {room : Int} {L L' : List Key} {F : Nat → Prop} {B : BoxL} {W W' : World} (h : EnvS w s room L F B W) (hw : Wrote F s L' room W W') : ∃ F', EnvS w s room L' F' B W' := by
  obtain ⟨F', h1, h2, h3⟩ := hw
  refine ⟨F', h1, boxes_upd h.boxes h.st h2, ext_of_upd (upd_trans (upd_of_ext h.ext) h2 (fun i hi e => by have := h.low i e; omega)), fun b hb => ?_⟩
  rcases h3 b hb with h4 | h4
  · exact h.low b h4
  · exact Nat.le_trans (ext_size h.ext) h4
theorem envS_push {w : World} {s : Nat} {room : Int} {L : List Key} {F : Nat → Prop} {B : BoxL} {W : World} {b : Nat} {cs : Array Value} {t : TypeId} (h : EnvS w s room L F B W) (hb : W.heap[b]? = some (.cells cs t (0, 0))) (h1 : t ≠ 25) (h2 : t ≠ 65) (h3 : t ≠ 47) : EnvS w s room L F ((b, cs, t) :: B) W :=
  ⟨h.st, boxes_cons h.boxes hb h1 h2 h3, h.ext, h.low⟩
theorem envS_pop {w : World} {s : Nat} {room : Int} {L : List Key} {F : Nat → Prop} {B : BoxL} {W : World} {z : Nat × Array Value × TypeId} (h : EnvS w s room L F (z :: B) W) : EnvS w s room L F B W := ⟨h.st, boxes_tail h.boxes, h.ext, h.low⟩

/-- and the document's list, in its box -/
structure Env (w : World) (s bm : Nat) (room : Int) (Ls Lm : List Key) (lv : Value) (F : Nat → Prop) (B : BoxL) (W : World) : Prop where
  st : St W F s Ls room
  row : rowL W lv Lm
  m : W.heap[bm]? = some (.cells #[.int .i64 room, lv] 47 (0, 0))
  boxes : Boxes B W
  ext : Ext w W
  low : ∀ b, F b → w.heap.size ≤ b
  lowm : w.heap.size ≤ bm
theorem env_ext {w : World} {s bm : Nat} {room : Int} {Ls Lm : List Key} {lv : Value} {F : Nat → Prop} {B : BoxL} {W W' : World} (h : Env w s bm room Ls Lm lv F B W) (hE : Ext W W') : Env w s bm room Ls Lm lv F B W' :=
  ⟨st_ext h.st hE, row_ext h.row hE, (ext_block hE (block_lt h.m)).trans h.m, boxes_ext h.boxes hE, ext_trans h.ext hE, h.low, h.lowm⟩
theorem env_put {w : World} {s bm : Nat} {room : Int} {Ls Lm Lm' : List Key} {lv lv' : Value} {F : Nat → Prop} {B : BoxL} {W : World} (h : Env w s bm room Ls Lm lv F B W) (hr : rowL W lv' Lm') :
    Env w s bm room Ls Lm' lv' F B ((W.setCell ⟨bm, 0, none⟩ (.int .i64 room)).setCell ⟨bm, 1, none⟩ lv') := by
  have hu : Upd (fun b => b = bm) W ((W.setCell ⟨bm, 0, none⟩ (.int .i64 room)).setCell ⟨bm, 1, none⟩ lv') := upd_trans (upd_mono (upd_setCell _) (fun b _ h => h)) (upd_mono (upd_setCell _) (fun b _ h => h)) (fun _ _ h => h)
  refine ⟨st_upd h.st hu (fun b hb e => by subst e; exact st_off h.st h.m (by decide) (by decide) hb), row_upd hr hu (fun b hb e => ?_), ?_, fun z hz => ⟨(hu.block z.1 (block_lt (h.boxes z hz).1) (fun e => ?_)).trans (h.boxes z hz).1, (h.boxes z hz).2⟩, ?_, h.low, h.lowm⟩
  · subst e
    rcases rowL_cases hr with ⟨rfl, _⟩ | ⟨g, cap, cur, rfl, hg, _⟩
    · cases hb
    · cases hb; have := h.m; rw [hg] at this; simp at this
  · have h1 : (W.setCell ⟨bm, 0, none⟩ (.int .i64 room)).heap[bm]? = some (.cells #[.int .i64 room, lv] 47 (0, 0)) := by rw [heap_setCell_at h.m]; rfl
    rw [heap_setCell_at h1]; rfl
  · have h1 := (h.boxes z hz).1
    rw [e, h.m] at h1
    simp only [Option.some.injEq, Obj.cells.injEq] at h1
    exact (h.boxes z hz).2.2.2 h1.2.1.symm
  · exact ext_of_upd (upd_trans (upd_of_ext h.ext) hu (fun i hi e => by subst e; have := h.lowm; omega))
theorem env_wrote {w : World} {s bm : Nat} {room : Int} {Ls Ls' Lm : List Key} {lv : Value} {F : Nat → Prop} {B : BoxL} {W W' : World} (h : Env w s bm room Ls Lm lv F B W) (hw : Wrote F s Ls' room W W') : ∃ F', Env w s bm room Ls' Lm lv F' B W' := by
  obtain ⟨F', h1, h2, h3⟩ := hw
  refine ⟨F', h1, row_upd h.row h2 (rowL_off h.st h.row), (h2.block bm (block_lt h.m) (st_off h.st h.m (by decide) (by decide))).trans h.m, boxes_upd h.boxes h.st h2, ?_, fun b hb => ?_, h.lowm⟩
  · exact ext_of_upd (upd_trans (upd_of_ext h.ext) h2 (fun i hi e => by have := h.low i e; omega))
  · rcases h3 b hb with h4 | h4
    · exact h.low b h4
    · exact Nat.le_trans (ext_size h.ext) h4
theorem env_push {w : World} {s bm : Nat} {room : Int} {Ls Lm : List Key} {lv : Value} {F : Nat → Prop} {B : BoxL} {W : World} {b : Nat} {cs : Array Value} {t : TypeId} (h : Env w s bm room Ls Lm lv F B W) (hb : W.heap[b]? = some (.cells cs t (0, 0))) (h1 : t ≠ 25) (h2 : t ≠ 65) (h3 : t ≠ 47) : Env w s bm room Ls Lm lv F ((b, cs, t) :: B) W :=
  ⟨h.st, h.row, h.m, boxes_cons h.boxes hb h1 h2 h3, h.ext, h.low, h.lowm⟩
theorem env_pop {w : World} {s bm : Nat} {room : Int} {Ls Lm : List Key} {lv : Value} {F : Nat → Prop} {B : BoxL} {W : World} {z : Nat × Array Value × TypeId} (h : Env w s bm room Ls Lm lv F (z :: B) W) : Env w s bm room Ls Lm lv F B W :=
  ⟨h.st, h.row, h.m, boxes_tail h.boxes, h.ext, h.low, h.lowm⟩

theorem rowL_ext {w w' : World} {v : Value} {ks : List Key} (h : rowL w v ks) (hE : Ext w w') : rowL w' v ks := row_ext h hE
def actCells (x : ActV) : Array Value := #[.int .u8 x.kind, .int .u8 x.num, .int .i64 x.key.a, .int .i64 x.key.b, .int .i64 x.key.c]
theorem addL_length (room : Int) (L : List Key) (k : Key) : (addL room L k).length ≤ L.length + 1 := by
  unfold addL; split <;> simp
theorem remL_length (L : List Key) (k : Key) : (remL L k).length ≤ L.length := by
  unfold remL; exact (List.erase_sublist).length_le
theorem st_new (w1 : World) (room : Int) (h : 1 < w1.heap.size) : St (w1.alloc (.cells #[.slice none 0 0, .slice none 0 0, .slice none 0 0, .int .i64 room] 65)) (fpS w1.heap.size nilV) w1.heap.size [] room :=
  ⟨nilV, noKeys, store_new w1 room h, fun _ _ => List.Pairwise.nil, fun _ _ => List.Perm.nil, fun _ => Iff.rfl, fun _ h => by cases h⟩
theorem low_new {n s : Nat} (h : n ≤ s) : ∀ b, fpS s nilV b → n ≤ b := fun b hb => by
  rcases hb with rfl | ⟨i, hi, h⟩
  · exact h
  · cases h
end Go.Proofs.YtfaegjlolhpofaaDoor
