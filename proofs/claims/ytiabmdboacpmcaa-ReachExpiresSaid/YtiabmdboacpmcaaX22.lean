/- Texts joined: Pu. -/
import Derived.Deep.QuietTactic
import Derived.BigQuiet
import Derived.Test.YtiabmdboacpmcaaX20
/- Tree. -/
namespace Go.Proofs.Ytiabmdboacpmcaa
open Go Go.RowKit Go.Sort
set_option maxHeartbeats 2000000

abbrev PaV := Int × Int × SlV
def elP : El PaV := ⟨fun x => [.int .i64 x.1, .int .i64 x.2.1, slv x.2.2], 3, 30, by decide, fun _ => rfl, fun x u hu => by
  simp only [List.mem_cons, List.not_mem_nil, or_false] at hu; rcases hu with rfl | rfl | rfl <;> rfl⟩
noncomputable def tpP : Tp Try.prog 28 elP := ⟨(Try.prog.info? 30).get (by kernel_rfl), .agg #[.int .i64 0, .int .i64 0, .slice none 0 0], 40, Try.underlying28, by kernel_rfl, by kernel_rfl, by kernel_rfl, by kernel_rfl, rfl, by decide⟩

set_option maxRecDepth 100000 in
theorem make_ints (m : Nat) (hm : m ≤ 1000) : ∃ cs0 : Array Value, cs0.size = m ∧ ∀ w : World, Sem.run Try.prog (Instr.makeSlice 52 (.int .i64 (m : Int)) (.int .i64 (m : Int))) w = .ok (.slice (some ⟨w.heap.size, 0, none⟩) m m) (w.alloc (.cells cs0 3)) := by
  have hi : (Try.prog.info? 3) = some ((Try.prog.info? 3).get (by kernel_rfl)) := (Option.some_get _).symm
  have hsz : ((Try.prog.info? 3).get (by kernel_rfl)).size = 1 := by kernel_rfl
  have hz : ((Try.prog.info? 3).get (by kernel_rfl)).zero = some (.int .i64 0) := by kernel_rfl
  have hby : ((Try.prog.info? 3).get (by kernel_rfl)).bytes = 8 := by kernel_rfl
  refine ⟨madeCells (Value.int .i64 0).cells (m * 1), by simp [madeCells], fun w => ?_⟩
  have h := run_makeSlice (P := Try.prog) w 52 3 _ (.int .i64 0) Try.underlying52 hi hz .i64 .i64 (m : Int) (m : Int) (by omega) (Int.le_refl _) (by rw [hsz]; simp; omega) (by rw [hby]; omega) (by omega)
  rw [hsz, Int.toNat_natCast] at h
  exact h
set_option maxRecDepth 100000 in
theorem make_paths (m : Nat) (hm : m ≤ 1000) : ∃ cs0 : Array Value, cs0.size = m * 3 ∧ ∀ w : World, Sem.run Try.prog (Instr.makeSlice 28 (.int .i64 (m : Int)) (.int .i64 (m : Int))) w = .ok (.slice (some ⟨w.heap.size, 0, none⟩) m m) (w.alloc (.cells cs0 30)) := by
  have hi : (Try.prog.info? 30) = some ((Try.prog.info? 30).get (by kernel_rfl)) := (Option.some_get _).symm
  have hsz : ((Try.prog.info? 30).get (by kernel_rfl)).size = 3 := by kernel_rfl
  have hz : ((Try.prog.info? 30).get (by kernel_rfl)).zero = some (.agg #[.int .i64 0, .int .i64 0, .slice none 0 0]) := by kernel_rfl
  have hby : ((Try.prog.info? 30).get (by kernel_rfl)).bytes = 40 := by kernel_rfl
  refine ⟨madeCells (Value.agg #[.int .i64 0, .int .i64 0, .slice none 0 0]).cells (m * 3), by simp [madeCells], fun w => ?_⟩
  have h := run_makeSlice (P := Try.prog) w 28 30 _ _ Try.underlying28 hi hz .i64 .i64 (m : Int) (m : Int) (by omega) (Int.le_refl _) (by rw [hsz]; simp; omega) (by rw [hby]; omega) (by omega)
  rw [hsz, Int.toNat_natCast] at h
  exact h
set_option maxRecDepth 100000 in
theorem make_refs (m : Nat) (hm : m ≤ 1000) : ∃ cs0 : Array Value, cs0.size = m * 3 ∧ ∀ w : World, Sem.run Try.prog (Instr.makeSlice 27 (.int .i64 (m : Int)) (.int .i64 (m : Int))) w = .ok (.slice (some ⟨w.heap.size, 0, none⟩) m m) (w.alloc (.cells cs0 102)) := by
  have hi : (Try.prog.info? 102) = some ((Try.prog.info? 102).get (by kernel_rfl)) := (Option.some_get _).symm
  have hsz : ((Try.prog.info? 102).get (by kernel_rfl)).size = 3 := by kernel_rfl
  have hz : ((Try.prog.info? 102).get (by kernel_rfl)).zero = some (.agg #[.int .i64 0, .int .i64 0, .slice none 0 0]) := by kernel_rfl
  have hby : ((Try.prog.info? 102).get (by kernel_rfl)).bytes = 40 := by kernel_rfl
  refine ⟨madeCells (Value.agg #[.int .i64 0, .int .i64 0, .slice none 0 0]).cells (m * 3), by simp [madeCells], fun w => ?_⟩
  have h := run_makeSlice (P := Try.prog) w 27 102 _ _ Try.underlying27 hi hz .i64 .i64 (m : Int) (m : Int) (by omega) (Int.le_refl _) (by rw [hsz]; simp; omega) (by rw [hby]; omega) (by omega)
  rw [hsz, Int.toNat_natCast] at h
  exact h

theorem ext_drewN (w : World) (n : Nat) : Ext w (w.drewN n) := ⟨rfl, rfl, rfl, Nat.le_refl _, fun _ _ => rfl⟩
/-- the parts of a document's node, being made -/
def RefRow (w : World) (rb H k : Nat) (x0 x1 : Int) (ks : List Nat) (A : Option Addr) (c : Nat) : Prop := w.cell? ⟨rb, k * 3, none⟩ = some (.int .i64 x0) ∧ w.cell? ⟨rb, k * 3 + 1, none⟩ = some (.int .i64 x1) ∧ w.cell? ⟨rb, k * 3 + 2, none⟩ = some (.slice A ks.length c) ∧ rowF elN H ks (.slice A ks.length c) w
/-- the parts of a path, being made -/
def PathRow (w : World) (pb lo H k : Nat) (x0 x1 : Int) (ts : List Tr) (B : Option Addr) (d : Nat) : Prop := w.cell? ⟨pb, k * 3, none⟩ = some (.int .i64 x0) ∧ w.cell? ⟨pb, k * 3 + 1, none⟩ = some (.int .i64 x1) ∧ w.cell? ⟨pb, k * 3 + 2, none⟩ = some (.slice B ts.length d) ∧ ∃ xv : List PaV, xv.length = ts.length ∧ rowF elP H xv (.slice B ts.length d) w ∧ ∀ (m : Nat) (t : Tr) (y : PaV), ts[m]? = some t → xv[m]? = some y → TX w lo H t (.int .i64 y.1) (.int .i64 y.2.1) (slv y.2.2)
theorem refRow_upd {fp : Nat → Prop} {w w' : World} {rb H k c : Nat} {x0 x1 : Int} {ks : List Nat} {A : Option Addr} (h : RefRow w rb H k x0 x1 ks A c) (hu : Upd fp w w') (h1 : ¬ fp rb) (h2 : ∀ b, (Value.slice A ks.length c).ownBlock = some b → ¬ fp b) : RefRow w' rb H k x0 x1 ks A c := by
  obtain ⟨k1, k2, k3, k4⟩ := h
  have lb := World.block_lt_of_cell? _ _ k1
  exact ⟨(upd_cell hu lb h1 _).trans k1, (upd_cell hu lb h1 _).trans k2, (upd_cell hu lb h1 _).trans k3, rowF_upd k4 hu h2⟩
theorem pathRow_upd {fp : Nat → Prop} {w w' : World} {pb lo H k d : Nat} {x0 x1 : Int} {ts : List Tr} {B : Option Addr} (h : PathRow w pb lo H k x0 x1 ts B d) (hu : Upd fp w w') (h1 : ¬ fp pb) (h2 : ∀ b, (Value.slice B ts.length d).ownBlock = some b → ¬ fp b) (h3 : ∀ b, fp b → lo ≤ b → H ≤ b) (hH : H ≤ w.heap.size) : PathRow w' pb lo H k x0 x1 ts B d := by
  obtain ⟨k1, k2, k3, xv, k4, k5, k6⟩ := h
  have lb := World.block_lt_of_cell? _ _ k1
  refine ⟨(upd_cell hu lb h1 _).trans k1, (upd_cell hu lb h1 _).trans k2, (upd_cell hu lb h1 _).trans k3, xv, k4, rowF_upd k5 hu h2, fun m t y ht hy => TX_same (fun g o hg hg2 => upd_cell hu (by omega) (fun hh => by have := h3 g hh hg; omega) o) (Nat.le_refl _) _ _ _ _ (k6 m t y ht hy)⟩
/-- the last of a row of paths, set anew -/
theorem rowP_last {w : World} {H g n c i : Nat} {L : List PaV} {z y : PaV} (h : rowF elP H (L ++ [z]) (.slice (some ⟨g, 0, none⟩) n c) w) (hi : i = L.length * 3) :
    rowF elP H (L ++ [y]) (.slice (some ⟨g, 0, none⟩) n c) (((w.setCell ⟨g, i, none⟩ (.int .i64 y.1)).setCell ⟨g, i + 1, none⟩ (.int .i64 y.2.1)).setCell ⟨g, i + 2, none⟩ (slv y.2.2)) := by
  subst hi
  rcases rowE_cases h.1 with ⟨h1, h2⟩ | ⟨g', cap, cur, h1, hg, h2, h3, h4, h5⟩
  · cases h1
  · simp only [Value.slice.injEq, Option.some.injEq, Addr.mk.injEq, and_true] at h1
    obtain ⟨rfl, rfl, rfl⟩ := h1
    have hfl : (flatE elP L).length = L.length * 3 := flatE_length elP L
    have hsz : (L ++ [z]).length * elP.size = L.length * 3 + 3 := by rw [List.length_append]; simp [elP]; omega
    have hsy : (L ++ [y]).length * elP.size = L.length * 3 + 3 := by rw [List.length_append]; simp [elP]; omega
    refine ⟨⟨by rw [flatE_length], .inr ⟨g, c, ((cur.setIfInBounds (L.length * 3) (.int .i64 y.1)).setIfInBounds (L.length * 3 + 1) (.int .i64 y.2.1)).setIfInBounds (L.length * 3 + 2) (slv y.2.2), by simp, Nat.zero_le _, by rw [heap_setCell_at (heap_setCell_at (heap_setCell_at hg))], by simpa using h2, h3, by simp [h4], ?_⟩⟩, h.2⟩
    rw [hsz, flatE_append, flatE_single] at h5
    rw [hsy, flatE_append, flatE_single]
    simp only [Array.toList_setIfInBounds, List.take_set, h5]
    rw [List.set_append_right _ _ (by omega), List.set_append_right _ _ (by omega), List.set_append_right _ _ (by omega), hfl]
    simp [elP]

/-- a node's rows are begun -/
theorem start_node {w wo w2 : World} {bx rb pb sb n lo H k n9 c9 : Nat} {T : List Tr} {x0 x1 : Int} {A9 : Option Addr} (hw : w2 = ((((((((wo.setCell ⟨sb, k, none⟩ (.int .i64 1)).setCell ⟨rb, k * 3, none⟩ (.int .i64 x0)).setCell ⟨rb, k * 3 + 1, none⟩ (.int .i64 x1)).setCell ⟨rb, k * 3 + 2, none⟩ (.slice none 0 0)).setCell ⟨pb, k * 3, none⟩ (.int .i64 x0)).setCell ⟨pb, k * 3 + 1, none⟩ (.int .i64 x1)).setCell ⟨pb, k * 3 + 2, none⟩ (.slice none 0 0)).alloc (.cells #[.int .i64 x0, .int .i64 x1, .slice A9 n9 c9] 26)))
    (hD : Done wo rb pb sb n lo H T (k + 1)) (hR : Rows3 wo rb pb sb n lo) (hlH : lo ≤ H) (hHz : H ≤ wo.heap.size) (hE : Ext w wo) (hbw : w.heap.size ≤ bx) (hbr : bx < rb) (hkn : k < n) (hbx : ∃ a b s, wo.heap[bx]? = some (.cells #[a, b, s] 30 (0, 0))) (hord : rb < pb ∧ pb < sb) :
    Done w2 rb pb sb n lo H T (k + 1) ∧ Rows3 w2 rb pb sb n lo ∧ RefRow w2 rb H k x0 x1 [] none 0 ∧ PathRow w2 pb lo H k x0 x1 [] none 0 ∧ w2.cell? ⟨sb, k, none⟩ = some (.int .i64 ((1 + sizeL [] : Nat) : Int)) ∧ Ext w w2 ∧ (∃ a b s, w2.heap[bx]? = some (.cells #[a, b, s] 30 (0, 0))) ∧ H ≤ w2.heap.size := by
  obtain ⟨h1, h2⟩ := hord
  obtain ⟨w3, hw3⟩ : ∃ w3, w3 = (((((((wo.setCell ⟨sb, k, none⟩ (.int .i64 1)).setCell ⟨rb, k * 3, none⟩ (.int .i64 x0)).setCell ⟨rb, k * 3 + 1, none⟩ (.int .i64 x1)).setCell ⟨rb, k * 3 + 2, none⟩ (.slice none 0 0)).setCell ⟨pb, k * 3, none⟩ (.int .i64 x0)).setCell ⟨pb, k * 3 + 1, none⟩ (.int .i64 x1)).setCell ⟨pb, k * 3 + 2, none⟩ (.slice none 0 0)) := ⟨_, rfl⟩
  rw [← hw3] at hw
  obtain ⟨cr, r1, r2⟩ := hR.r
  obtain ⟨cp, p1, p2⟩ := hR.p
  obtain ⟨cs, s1, s2⟩ := hR.s
  have hz3 : w3.heap.size = wo.heap.size := by rw [hw3]; simp [World.setCell]
  have D3 : Done w3 rb pb sb n lo H T (k + 1) ∧ Rows3 w3 rb pb sb n lo := by
    have a0 := done_set hD hR (.int .i64 1) (b := sb) (o := k) (.inr (.inr ⟨rfl, by omega⟩))
    have b0 := rows3_set hR (.int .i64 1) (b := sb) (o := k) (.inr (.inr rfl))
    have a1 := done_set a0 b0 (.int .i64 x0) (b := rb) (o := k * 3) (.inl ⟨rfl, by omega⟩)
    have b1 := rows3_set b0 (.int .i64 x0) (b := rb) (o := k * 3) (.inl rfl)
    have a2 := done_set a1 b1 (.int .i64 x1) (b := rb) (o := k * 3 + 1) (.inl ⟨rfl, by omega⟩)
    have b2 := rows3_set b1 (.int .i64 x1) (b := rb) (o := k * 3 + 1) (.inl rfl)
    have a3 := done_set a2 b2 (.slice none 0 0) (b := rb) (o := k * 3 + 2) (.inl ⟨rfl, by omega⟩)
    have b3 := rows3_set b2 (.slice none 0 0) (b := rb) (o := k * 3 + 2) (.inl rfl)
    have a4 := done_set a3 b3 (.int .i64 x0) (b := pb) (o := k * 3) (.inr (.inl ⟨rfl, by omega⟩))
    have b4 := rows3_set b3 (.int .i64 x0) (b := pb) (o := k * 3) (.inr (.inl rfl))
    have a5 := done_set a4 b4 (.int .i64 x1) (b := pb) (o := k * 3 + 1) (.inr (.inl ⟨rfl, by omega⟩))
    have b5 := rows3_set b4 (.int .i64 x1) (b := pb) (o := k * 3 + 1) (.inr (.inl rfl))
    have a6 := done_set a5 b5 (.slice none 0 0) (b := pb) (o := k * 3 + 2) (.inr (.inl ⟨rfl, by omega⟩))
    have b6 := rows3_set b5 (.slice none 0 0) (b := pb) (o := k * 3 + 2) (.inr (.inl rfl))
    rw [hw3]
    exact ⟨a6, b6⟩
  have hE3 : Ext w w3 := by
    rw [hw3]
    exact ext_set (ext_set (ext_set (ext_set (ext_set (ext_set (ext_set hE (by show w.heap.size ≤ sb; omega) _) (by show w.heap.size ≤ rb; omega) _) (by show w.heap.size ≤ rb; omega) _) (by show w.heap.size ≤ rb; omega) _) (by show w.heap.size ≤ pb; omega) _) (by show w.heap.size ≤ pb; omega) _) (by show w.heap.size ≤ pb; omega) _
  have B3 : w3.heap[bx]? = wo.heap[bx]? := by
    rw [hw3]
    repeat rw [Below.heap_setCell _ _ _ _ (by intro e; simp only at e; omega)]
  have S3 : w3.heap[sb]? = some (.cells (cs.setIfInBounds k (.int .i64 1)) 3 (0, 0)) := by
    rw [hw3]
    iterate 6 rw [Below.heap_setCell _ _ _ _ (by intro e; simp only at e; omega)]
    rw [heap_setCell_at s1]
  have P3 : w3.heap[pb]? = some (.cells (((cp.setIfInBounds (k * 3) (.int .i64 x0)).setIfInBounds (k * 3 + 1) (.int .i64 x1)).setIfInBounds (k * 3 + 2) (.slice none 0 0)) 30 (0, 0)) := by
    rw [hw3]
    refine heap_setCell_at (heap_setCell_at (heap_setCell_at ?_))
    iterate 4 rw [Below.heap_setCell _ _ _ _ (by intro e; simp only at e; omega)]
    exact p1
  have R3 : w3.heap[rb]? = some (.cells (((cr.setIfInBounds (k * 3) (.int .i64 x0)).setIfInBounds (k * 3 + 1) (.int .i64 x1)).setIfInBounds (k * 3 + 2) (.slice none 0 0)) 102 (0, 0)) := by
    rw [hw3]
    iterate 3 rw [Below.heap_setCell _ _ _ _ (by intro e; simp only at e; omega)]
    refine heap_setCell_at (heap_setCell_at (heap_setCell_at ?_))
    rw [Below.heap_setCell _ _ _ _ (by intro e; simp only at e; omega)]
    exact r1
  have hEa : Ext w3 w2 := by rw [hw]; exact ext_alloc (ext_refl _) _
  have hlo := hR.sl
  have R4 := (ext_block hEa (block_lt R3)).trans R3
  have P4 := (ext_block hEa (block_lt P3)).trans P3
  have S4 := (ext_block hEa (block_lt S3)).trans S3
  have q1 : k * 3 + 2 < cr.size := by omega
  have q2 : k * 3 + 2 < cp.size := by omega
  have q3 : k < cs.size := by omega
  have hu : Upd (fun _ => False) w3 w2 := upd_of_ext hEa
  refine ⟨done_upd D3.1 D3.2 hu (fun _ h => h.elim) hlH (by omega), rows3_upd D3.2 hu (fun _ h => h.elim), ⟨?_, ?_, ?_, rowF_nil _ _⟩, ⟨?_, ?_, ?_, [], rfl, rowF_nil _ _, fun m t y ht => by simp at ht⟩, ?_, ext_trans hE3 hEa, ?_, ?_⟩
  · rw [block_cell R4]; simp [Array.getElem?_setIfInBounds]; omega
  · rw [block_cell R4]; simp [Array.getElem?_setIfInBounds]; omega
  · rw [block_cell R4]; simp [Array.getElem?_setIfInBounds]; omega
  · rw [block_cell P4]; simp [Array.getElem?_setIfInBounds]; omega
  · rw [block_cell P4]; simp [Array.getElem?_setIfInBounds]; omega
  · rw [block_cell P4]; simp [Array.getElem?_setIfInBounds]; omega
  · rw [block_cell S4]; simp [Array.getElem?_setIfInBounds, sizeL]; omega
  · obtain ⟨a, b, s, hb⟩ := hbx
    exact ⟨a, b, s, (ext_block hEa (block_lt (B3.trans hb))).trans (B3.trans hb)⟩
  · have := ext_size hEa
    omega

/-- what stands while the parts of a node are looked through -/
structure Inn (w wr : World) (bx rb pb sb n lo H k : Nat) (T : List Tr) (x0 x1 : Int) (xs : List Nat) (j : Nat) (os : List Nat) (ts : List Tr) (A : Option Addr) (c : Nat) (B : Option Addr) (d : Nat) : Prop where
  picked : Picked (T.drop (k + 1)) xs j os ts
  done : Done wr rb pb sb n lo H T (k + 1)
  rows : Rows3 wr rb pb sb n lo
  ref : RefRow wr rb H k x0 x1 (os.map (k + 1 + ·)) A c
  path : PathRow wr pb lo H k x0 x1 ts B d
  size : wr.cell? ⟨sb, k, none⟩ = some (.int .i64 ((1 + sizeL ts : Nat) : Int))
  hz : H ≤ wr.heap.size
  box : ∃ a b s, wr.heap[bx]? = some (.cells #[a, b, s] 30 (0, 0))
  ext : Ext w wr
theorem inn_ext {w wr wr' : World} {bx rb pb sb n lo H k : Nat} {T : List Tr} {x0 x1 : Int} {xs : List Nat} {j : Nat} {os : List Nat} {ts : List Tr} {A : Option Addr} {c : Nat} {B : Option Addr} {d : Nat} (h : Inn w wr bx rb pb sb n lo H k T x0 x1 xs j os ts A c B d) (hE : Ext wr wr') (hlH : lo ≤ H) : Inn w wr' bx rb pb sb n lo H k T x0 x1 xs j os ts A c B d := by
  have hu : Upd (fun _ => False) wr wr' := upd_of_ext hE
  obtain ⟨a, b, s, hb⟩ := h.box
  exact ⟨h.picked, done_upd h.done h.rows hu (fun _ h => h.elim) hlH h.hz, rows3_upd h.rows hu (fun _ h => h.elim), refRow_upd h.ref hu (fun h => h) (fun _ _ h => h), pathRow_upd h.path hu (fun h => h) (fun _ _ h => h) (fun _ h => h.elim) h.hz, (ext_cell hE _ _ (World.block_lt_of_cell? _ _ h.size)).trans h.size, Nat.le_trans h.hz (ext_size hE), ⟨a, b, s, (ext_block hE (block_lt hb)).trans hb⟩, ext_trans h.ext hE⟩
theorem filterMap_full {α β : Type} (f : α → Option β) : ∀ (os : List α), (os.filterMap f).length = os.length → ∀ (m : Nat) (t : β), (os.filterMap f)[m]? = some t → ∃ o, os[m]? = some o ∧ f o = some t
  | [], _, m, t, ht => by simp at ht
  | o :: r, hl, m, t, ht => by
    cases hf : f o with
    | none =>
      rw [List.filterMap_cons_none hf] at hl
      have := List.length_filterMap_le f r
      rw [List.length_cons] at hl
      omega
    | some y =>
      rw [List.filterMap_cons_some hf] at hl ht
      rw [List.length_cons, List.length_cons] at hl
      cases m with
      | zero =>
        simp only [List.getElem?_cons_zero, Option.some.injEq] at ht
        subst ht
        exact ⟨o, rfl, hf⟩
      | succ m =>
        simp only [List.getElem?_cons_succ] at ht ⊢
        exact filterMap_full f r (by omega) m t ht
/-- a node is done -/
theorem finish_node {w wr : World} {bx rb pb sb n lo H k : Nat} {L : List Nd} {T : List Tr} {x0 x1 : Int} {xs : List Nat} {j : Nat} {os : List Nat} {ts : List Tr} {A : Option Addr} {c : Nat} {B : Option Addr} {d : Nat} (h : Inn w wr bx rb pb sb n lo H k T x0 x1 xs j os ts A c B d) (hT : T = trs L) (hx : L[k]? = some (x0, x1, xs)) (hp : picks (T.drop (k + 1)) 1 3 xs = os) (hkn : k < n) (hlH : lo ≤ H) : Done wr rb pb sb n lo wr.heap.size T k := by
  have ht : T[k]? = some (.node x0 x1 ts) := by
    have := trs_at hx
    rw [← hT, treeOf] at this
    rw [this, hp, h.picked.trees]
  have hfull : ∀ (m : Nat) (t : Tr), ts[m]? = some t → ∃ o, os[m]? = some o ∧ T[k + 1 + o]? = some t := by
    intro m t hm
    have h1 : (os.filterMap ((T.drop (k + 1))[·]?)).length = os.length := by rw [h.picked.trees, h.picked.len, h.picked.tlen]
    obtain ⟨o, h2, h3⟩ := filterMap_full _ os h1 m t (by rw [h.picked.trees]; exact hm)
    rw [List.getElem?_drop] at h3
    exact ⟨o, h2, h3⟩
  have hsame : SameRows lo H wr wr := fun _ _ _ _ => rfl
  intro q t hq hqt
  rcases Nat.lt_or_ge k q with hlt | hge
  · obtain ⟨k1, ⟨a, b, s, k2, k3, k4, k5⟩, k6⟩ := h.done q t hlt hqt
    exact ⟨TR_same (i := 0) hsame (fun _ _ => rfl) h.hz t q (Nat.zero_le _) k1, ⟨a, b, s, k2, k3, k4, TX_same hsame h.hz t a b s k5⟩, k6⟩
  · obtain rfl : q = k := by omega
    rw [ht] at hqt
    cases hqt
    obtain ⟨r1, r2, r3, r4⟩ := h.ref
    obtain ⟨p1, p2, p3, xv, p4, p5, p6⟩ := h.path
    have hkl : (os.map (q + 1 + ·)).length = ts.length := by rw [List.length_map, h.picked.len, h.picked.tlen]
    rw [hkl] at r3 r4
    refine ⟨?_, ⟨_, _, _, p1, p2, p3, ?_⟩, by rw [sizeT]; exact h.size⟩
    · rw [TR]
      refine ⟨hkn, r1, r2, A, c, r3, by have := (rowE_cap r4.1).2; omega, fun hne => ?_⟩
      obtain ⟨g, hg, hgl⟩ := rowE_some r4.1 (fun e => by rw [e] at hkl; exact hne (List.length_eq_zero_iff.1 hkl.symm))
      subst hg
      refine ⟨g, rfl, by have := r4.2 g rfl; omega, hgl, LR_of ts q g 0 (fun m t hm => ?_)⟩
      obtain ⟨o, ho, hTo⟩ := hfull m t hm
      refine ⟨q + 1 + o, by omega, ?_, TR_same (i := 0) hsame (fun _ _ => rfl) h.hz t _ (Nat.zero_le _) (h.done (q + 1 + o) t (by omega) hTo).1⟩
      have := rowN_cell r4.1 (i := m) (x := q + 1 + o) (by simp [ho])
      rw [Nat.zero_add]
      exact this
    · rw [TX]
      refine ⟨rfl, rfl, B, d, rfl, fun hne => ?_⟩
      obtain ⟨g, hg, hgl⟩ := rowE_some p5.1 (fun e => by rw [e] at p4; exact hne (List.length_eq_zero_iff.1 p4.symm))
      subst hg
      refine ⟨g, rfl, by have := p5.2 g rfl; omega, hgl, LX_of ts g 0 (fun m t hm => ?_)⟩
      obtain ⟨y, hy⟩ : ∃ y, xv[m]? = some y := ⟨_, List.getElem?_eq_getElem (by have := (List.getElem?_eq_some_iff.1 hm).1; omega)⟩
      have q0 := rowE_cell p5.1 hy (j := 0) (u := .int .i64 y.1) rfl
      have q1 := rowE_cell p5.1 hy (j := 1) (u := .int .i64 y.2.1) rfl
      have q2 := rowE_cell p5.1 hy (j := 2) (u := slv y.2.2) rfl
      rw [Nat.zero_add]
      exact ⟨_, _, _, q0, q1, q2, TX_same hsame h.hz _ _ _ _ (p6 m t y hm hy)⟩

/-- what stands while a part is taken -/
structure Mid (w wr : World) (bx rb pb sb n lo H k : Nat) (T : List Tr) (x0 x1 : Int) (ks : List Nat) (ts : List Tr) (A : Option Addr) (c : Nat) (B : Option Addr) (d : Nat) : Prop where
  done : Done wr rb pb sb n lo H T (k + 1)
  rows : Rows3 wr rb pb sb n lo
  ref : RefRow wr rb H k x0 x1 ks A c
  path : PathRow wr pb lo H k x0 x1 ts B d
  hz : H ≤ wr.heap.size
  box : ∃ a b s, wr.heap[bx]? = some (.cells #[a, b, s] 30 (0, 0))
  ext : Ext w wr
theorem inn_mid {w wr : World} {bx rb pb sb n lo H k : Nat} {T : List Tr} {x0 x1 : Int} {xs : List Nat} {j : Nat} {os : List Nat} {ts : List Tr} {A : Option Addr} {c : Nat} {B : Option Addr} {d : Nat} (h : Inn w wr bx rb pb sb n lo H k T x0 x1 xs j os ts A c B d) : Mid w wr bx rb pb sb n lo H k T x0 x1 (os.map (k + 1 + ·)) ts A c B d := ⟨h.done, h.rows, h.ref, h.path, h.hz, h.box, h.ext⟩
section
variable {w wr : World} {bx rb pb sb n lo H k : Nat} {T : List Tr} {x0 x1 : Int} {ks : List Nat} {ts : List Tr} {A : Option Addr} {c : Nat} {B : Option Addr} {d : Nat}
theorem mid_ext {wr' : World} (h : Mid w wr bx rb pb sb n lo H k T x0 x1 ks ts A c B d) (hE : Ext wr wr') (hlH : lo ≤ H) : Mid w wr' bx rb pb sb n lo H k T x0 x1 ks ts A c B d := by
  have hu : Upd (fun _ => False) wr wr' := upd_of_ext hE
  obtain ⟨a, b, s, hb⟩ := h.box
  exact ⟨done_upd h.done h.rows hu (fun _ h => h.elim) hlH h.hz, rows3_upd h.rows hu (fun _ h => h.elim), refRow_upd h.ref hu (fun h => h) (fun _ _ h => h), pathRow_upd h.path hu (fun h => h) (fun _ _ h => h) (fun _ h => h.elim) h.hz, Nat.le_trans h.hz (ext_size hE), ⟨a, b, s, (ext_block hE (block_lt hb)).trans hb⟩, ext_trans h.ext hE⟩
theorem size_setCell (w : World) (p : Addr) (u : Value) : (w.setCell p u).heap.size = w.heap.size := by simp [World.setCell]
theorem mid_size (h : Mid w wr bx rb pb sb n lo H k T x0 x1 ks ts A c B d) (u : Value) (hlH : lo ≤ H) (hbw : w.heap.size ≤ bx) (ho : bx < rb ∧ rb < pb ∧ pb < sb) : Mid w (wr.setCell ⟨sb, k, none⟩ u) bx rb pb sb n lo H k T x0 x1 ks ts A c B d := by
  obtain ⟨a, b, s, hb⟩ := h.box
  have hu : Upd (fun b => b = sb) wr (wr.setCell ⟨sb, k, none⟩ u) := upd_setCell (a := ⟨sb, k, none⟩) u
  have hsl := h.rows.sl
  exact ⟨done_set h.done h.rows u (.inr (.inr ⟨rfl, by omega⟩)), rows3_set h.rows u (.inr (.inr rfl)), refRow_upd h.ref hu (fun e => by omega) (fun b hb e => by have := h.ref.2.2.2.2 b hb; omega), pathRow_upd h.path hu (fun e => by omega) (fun b hb e => by obtain ⟨xv, _, h5, _⟩ := h.path.2.2.2; have := h5.2 b hb; omega) (fun b e hl => by omega) h.hz, by rw [size_setCell]; exact h.hz, ⟨a, b, s, (Below.heap_setCell _ _ _ _ (by intro e; simp only at e; omega)).trans hb⟩, ext_set h.ext (by show w.heap.size ≤ sb; omega) _⟩
theorem mid_ref {w' : World} {A' : Option Addr} {c' q : Nat} (h : Mid w wr bx rb pb sb n lo H k T x0 x1 ks ts A c B d) (hu : Upd (fun b => (Value.slice A ks.length c).ownBlock = some b) wr w') (hr : rowF elN H (ks ++ [q]) (.slice A' (ks.length + 1) c') w') (hlH : lo ≤ H) (hbw : w.heap.size ≤ bx) (ho : bx < rb ∧ rb < pb ∧ pb < sb) (_hkn : k < n) :
    Mid w (w'.setCell ⟨rb, k * 3 + 2, none⟩ (.slice A' (ks.length + 1) c')) bx rb pb sb n lo H k T x0 x1 (ks ++ [q]) ts A' c' B d := by
  obtain ⟨a, b, s, hb⟩ := h.box
  have hfp : ∀ b, (Value.slice A ks.length c).ownBlock = some b → H ≤ b := h.ref.2.2.2.2
  have hsl := h.rows.sl
  obtain ⟨r1, r2, r3, r4⟩ := h.ref
  obtain ⟨p1, p2, p3, xv, p4, p5, p6⟩ := h.path
  have lrb := World.block_lt_of_cell? _ _ r1
  have hD := done_upd h.done h.rows hu hfp hlH h.hz
  have hR := rows3_upd h.rows hu (fun b hb => by have := hfp b hb; omega)
  have hP := pathRow_upd h.path hu (fun e => by have := hfp _ e; omega) (fun b hb e => el_apart r4.1 p5.1 (by decide) e hb) (fun b e _ => hfp b e) h.hz
  have hz' : H ≤ w'.heap.size := Nat.le_trans h.hz hu.size
  have nrb : ¬ (Value.slice A ks.length c).ownBlock = some rb := fun e => by have := hfp _ e; omega
  have t1 := (upd_cell hu lrb nrb (k * 3)).trans r1
  have t2 := (upd_cell hu lrb nrb (k * 3 + 1)).trans r2
  have t3 := (upd_cell hu lrb nrb (k * 3 + 2)).trans r3
  have hu2 : Upd (fun b => b = rb) w' (w'.setCell ⟨rb, k * 3 + 2, none⟩ (.slice A' (ks.length + 1) c')) := upd_setCell (a := ⟨rb, k * 3 + 2, none⟩) _
  have hkl : (ks ++ [q]).length = ks.length + 1 := by simp
  refine ⟨done_set hD hR _ (.inl ⟨rfl, by omega⟩), rows3_set hR _ (.inl rfl), ⟨?_, ?_, ?_, ?_⟩, pathRow_upd hP hu2 (fun e => by omega) (fun b hb e => by obtain ⟨xv, _, h5, _⟩ := hP.2.2.2; have := h5.2 b hb; omega) (fun b e hl => by omega) hz', by rw [size_setCell]; exact hz', ⟨a, b, s, (Below.heap_setCell _ _ _ _ (by intro e; simp only at e; omega)).trans ((hu.block bx (block_lt hb) (fun e => by have := hfp _ e; omega)).trans hb)⟩, ?_⟩
  · rw [World.cell?_setCell_other _ _ _ _ (fun e => by simp only [Addr.mk.injEq] at e; omega)]; exact t1
  · rw [World.cell?_setCell_other _ _ _ _ (fun e => by simp only [Addr.mk.injEq] at e; omega)]; exact t2
  · rw [hkl]; exact World.cell?_setCell_same _ _ _ t3
  · rw [hkl]; exact rowF_upd hr hu2 (fun b hb e => by have := hr.2 b hb; omega)
  · refine ext_set ?_ (by show w.heap.size ≤ rb; omega) _
    have hwH : w.heap.size ≤ H := by omega
    exact ext_of_upd (upd_trans (upd_of_ext (fp := fun _ => False) h.ext) hu (fun i hi e => by have := hfp i e; omega))
theorem mid_path {w6 : World} {g' d' k3 : Nat} {xv : List PaV} {y : PaV} {t : Tr} (h : Mid w wr bx rb pb sb n lo H k T x0 x1 ks ts A c B d) (hxv : xv.length = ts.length) (hx6 : ∀ (m : Nat) (t : Tr) (y : PaV), ts[m]? = some t → xv[m]? = some y → TX wr lo H t (.int .i64 y.1) (.int .i64 y.2.1) (slv y.2.2)) (hty : TX wr lo H t (.int .i64 y.1) (.int .i64 y.2.1) (slv y.2.2)) (hu : Upd (fun b => (Value.slice B ts.length d).ownBlock = some b) wr w6) (hr : rowF elP H (xv ++ [(0, 0, (none, 0, 0))]) (.slice (some ⟨g', 0, none⟩) (ts.length + 1) d') w6) (hk3 : k3 = ts.length * 3) (hlH : lo ≤ H) (hbw : w.heap.size ≤ bx) (ho : bx < rb ∧ rb < pb ∧ pb < sb) (_hkn : k < n) :
    Mid w ((((w6.setCell ⟨g', k3, none⟩ (.int .i64 y.1)).setCell ⟨g', k3 + 1, none⟩ (.int .i64 y.2.1)).setCell ⟨g', k3 + 2, none⟩ (slv y.2.2)).setCell ⟨pb, k * 3 + 2, none⟩ (.slice (some ⟨g', 0, none⟩) (ts.length + 1) d')) bx rb pb sb n lo H k T x0 x1 ks (ts ++ [t]) A c (some ⟨g', 0, none⟩) d' := by
  obtain ⟨a, b, s, hb⟩ := h.box
  obtain ⟨p1, p2, p3, xv', p4, p5, p6⟩ := h.path
  have hfp : ∀ b, (Value.slice B ts.length d).ownBlock = some b → H ≤ b := p5.2
  have hsl := h.rows.sl
  obtain ⟨r1, r2, r3, r4⟩ := h.ref
  have hg : H ≤ g' := hr.2 g' rfl
  obtain ⟨w7, hw7⟩ : ∃ w7, w7 = ((w6.setCell ⟨g', k3, none⟩ (.int .i64 y.1)).setCell ⟨g', k3 + 1, none⟩ (.int .i64 y.2.1)).setCell ⟨g', k3 + 2, none⟩ (slv y.2.2) := ⟨_, rfl⟩
  have hr7 := rowP_last (y := y) (i := k3) hr (by rw [hxv]; exact hk3)
  rw [← hw7] at hr7 ⊢
  have hu7 : Upd (fun b => b = g') w6 w7 := by
    rw [hw7]
    exact upd_trans (upd_trans (upd_setCell (a := ⟨g', k3, none⟩) _) (upd_setCell (a := ⟨g', k3 + 1, none⟩) _) (fun _ _ h => h)) (upd_setCell (a := ⟨g', k3 + 2, none⟩) _) (fun _ _ h => h)
  have hua : Upd (fun b => (Value.slice B ts.length d).ownBlock = some b ∨ b = g') wr w7 := upd_trans (upd_mono hu (fun _ _ h => .inl h)) hu7 (fun _ _ h => .inr h)
  have hfa : ∀ b, ((Value.slice B ts.length d).ownBlock = some b ∨ b = g') → H ≤ b := fun b hb => by
    rcases hb with hb | rfl
    · exact hfp b hb
    · exact hg
  have r46 : rowF elN H ks (.slice A ks.length c) w6 := rowF_upd r4 hu (fun b hb e => el_apart r4.1 p5.1 (by decide) hb e)
  have hD := done_upd h.done h.rows hua hfa hlH h.hz
  have hR := rows3_upd h.rows hua (fun b hb => by have := hfa b hb; omega)
  have hRR := refRow_upd h.ref hua (fun e => by have := hfa _ e; omega) (fun b hb e => by
    rcases e with e | rfl
    · exact el_apart r4.1 p5.1 (by decide) hb e
    · exact el_apart r46.1 hr.1 (by decide) hb rfl)
  have lpb := World.block_lt_of_cell? _ _ p1
  have npb : ¬ ((Value.slice B ts.length d).ownBlock = some pb ∨ pb = g') := fun e => by have := hfa _ e; omega
  have t1 := (upd_cell hua lpb npb (k * 3)).trans p1
  have t2 := (upd_cell hua lpb npb (k * 3 + 1)).trans p2
  have t3 := (upd_cell hua lpb npb (k * 3 + 2)).trans p3
  have hz7 : H ≤ w7.heap.size := Nat.le_trans h.hz hua.size
  have hu2 : Upd (fun b => b = pb) w7 (w7.setCell ⟨pb, k * 3 + 2, none⟩ (.slice (some ⟨g', 0, none⟩) (ts.length + 1) d')) := upd_setCell (a := ⟨pb, k * 3 + 2, none⟩) _
  have hkl : (ts ++ [t]).length = ts.length + 1 := by simp
  have same1 : SameRows lo H wr w7 := fun g o hg1 hg2 => upd_cell hua (by have := h.hz; omega) (fun e => by have := hfa g e; omega) o
  have same2 : SameRows lo H w7 (w7.setCell ⟨pb, k * 3 + 2, none⟩ (.slice (some ⟨g', 0, none⟩) (ts.length + 1) d')) := fun g o hg1 hg2 => upd_cell hu2 (by omega) (fun e => by omega) o
  have lift : ∀ (t : Tr) (a b s : Value), TX wr lo H t a b s → TX (w7.setCell ⟨pb, k * 3 + 2, none⟩ (.slice (some ⟨g', 0, none⟩) (ts.length + 1) d')) lo H t a b s := fun t a b s hh => TX_same same2 (Nat.le_refl _) t a b s (TX_same same1 (Nat.le_refl _) t a b s hh)
  refine ⟨done_set hD hR _ (.inr (.inl ⟨rfl, by omega⟩)), rows3_set hR _ (.inr (.inl rfl)), refRow_upd hRR hu2 (fun e => by omega) (fun b hb e => by have := hRR.2.2.2.2 b hb; omega), ⟨?_, ?_, ?_, xv ++ [y], by simp [hxv], ?_, fun m t' y' ht hy => ?_⟩, by rw [size_setCell]; exact hz7, ⟨a, b, s, (Below.heap_setCell _ _ _ _ (by intro e; simp only at e; omega)).trans ((hua.block bx (block_lt hb) (fun e => by have := hfa _ e; omega)).trans hb)⟩, ?_⟩
  · rw [World.cell?_setCell_other _ _ _ _ (fun e => by simp only [Addr.mk.injEq] at e; omega)]; exact t1
  · rw [World.cell?_setCell_other _ _ _ _ (fun e => by simp only [Addr.mk.injEq] at e; omega)]; exact t2
  · rw [hkl]; exact World.cell?_setCell_same _ _ _ t3
  · rw [hkl]; exact rowF_upd hr7 hu2 (fun b hb e => by have := hr7.2 b hb; omega)
  · refine lift _ _ _ _ ?_
    rcases Nat.lt_or_ge m ts.length with hm | hm
    · rw [List.getElem?_append_left hm] at ht
      rw [List.getElem?_append_left (by omega)] at hy
      exact hx6 m t' y' ht hy
    · have hme : m = ts.length := by have := (List.getElem?_eq_some_iff.1 ht).1; rw [hkl] at this; omega
      subst hme
      rw [List.getElem?_append_right (Nat.le_refl _)] at ht
      rw [List.getElem?_append_right (by omega), hxv] at hy
      simp at ht hy
      subst ht hy
      exact hty
  · refine ext_set ?_ (by show w.heap.size ≤ pb; omega) _
    exact ext_of_upd (upd_trans (upd_of_ext (fp := fun _ => False) h.ext) hua (fun i hi e => by have := hfa i e; omega))
end

end Go.Proofs.Ytiabmdboacpmcaa
