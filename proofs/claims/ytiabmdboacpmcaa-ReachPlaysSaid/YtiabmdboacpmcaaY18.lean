/- Texts joined: Pu Pv Pw Px. -/
import Derived.Deep.QuietTactic
import Derived.BigQuiet
import Derived.Test.YtiabmdboacpmcaaY17
import Derived.Test.YtiabmdboacpmcaaY05
/- Tree. -/
namespace Go.Proofs.Ytiabmdboacpmcaa
open Go Go.RowKit Go.Sort
set_option maxHeartbeats 2000000

abbrev PaV := Int × Int × SlV
def elP : El PaV := ⟨fun x => [.int .i64 x.1, .int .i64 x.2.1, slv x.2.2], 3, 30, by decide, fun _ => rfl, fun x u hu => by
  simp only [List.mem_cons, List.not_mem_nil, or_false] at hu; rcases hu with rfl | rfl | rfl <;> rfl⟩
noncomputable def tpP : Tp Try.prog 28 elP := ⟨(Try.prog.info? 30).get (by kernel_rfl), .agg #[.int .i64 0, .int .i64 0, .slice none 0 0], 40, Try.underlying28, by kernel_rfl, by kernel_rfl, by kernel_rfl, by kernel_rfl, rfl, by decide⟩

set_option maxRecDepth 100000 in
theorem make_ints (m : Nat) (hm : m ≤ 1000) : ∃ cs0 : Array Value, cs0.size = m ∧ ∀ w : World, Sem.run Try.prog (Instr.makeSlice 52 (.int .i64 (m : Int)) (.int .i64 (m : Int))) w = .ok (.slice (some ⟨w.heap.size, 0, none⟩) m m) (w.alloc (.cells cs0 3)) := by
  have hi : (Try.prog.info? 3) = some ((Try.prog.info? 3).get (by kernel_rfl)) := (Option.some_get _).symm
  have hsz : ((Try.prog.info? 3).get (by kernel_rfl)).size = 1 := by kernel_rfl
  have hz : ((Try.prog.info? 3).get (by kernel_rfl)).zero = some (.int .i64 0) := by kernel_rfl
  have hby : ((Try.prog.info? 3).get (by kernel_rfl)).bytes = 8 := by kernel_rfl
  refine ⟨madeCells (Value.int .i64 0).cells (m * 1), by simp [madeCells], fun w => ?_⟩
  have h := run_makeSlice (P := Try.prog) w 52 3 _ (.int .i64 0) Try.underlying52 hi hz .i64 .i64 (m : Int) (m : Int) (by omega) (Int.le_refl _) (by rw [hsz]; simp; omega) (by rw [hby]; omega) (by omega)
  rw [hsz, Int.toNat_natCast] at h
  exact h
set_option maxRecDepth 100000 in
theorem make_paths (m : Nat) (hm : m ≤ 1000) : ∃ cs0 : Array Value, cs0.size = m * 3 ∧ ∀ w : World, Sem.run Try.prog (Instr.makeSlice 28 (.int .i64 (m : Int)) (.int .i64 (m : Int))) w = .ok (.slice (some ⟨w.heap.size, 0, none⟩) m m) (w.alloc (.cells cs0 30)) := by
  have hi : (Try.prog.info? 30) = some ((Try.prog.info? 30).get (by kernel_rfl)) := (Option.some_get _).symm
  have hsz : ((Try.prog.info? 30).get (by kernel_rfl)).size = 3 := by kernel_rfl
  have hz : ((Try.prog.info? 30).get (by kernel_rfl)).zero = some (.agg #[.int .i64 0, .int .i64 0, .slice none 0 0]) := by kernel_rfl
  have hby : ((Try.prog.info? 30).get (by kernel_rfl)).bytes = 40 := by kernel_rfl
  refine ⟨madeCells (Value.agg #[.int .i64 0, .int .i64 0, .slice none 0 0]).cells (m * 3), by simp [madeCells], fun w => ?_⟩
  have h := run_makeSlice (P := Try.prog) w 28 30 _ _ Try.underlying28 hi hz .i64 .i64 (m : Int) (m : Int) (by omega) (Int.le_refl _) (by rw [hsz]; simp; omega) (by rw [hby]; omega) (by omega)
  rw [hsz, Int.toNat_natCast] at h
  exact h
set_option maxRecDepth 100000 in
theorem make_refs (m : Nat) (hm : m ≤ 1000) : ∃ cs0 : Array Value, cs0.size = m * 3 ∧ ∀ w : World, Sem.run Try.prog (Instr.makeSlice 27 (.int .i64 (m : Int)) (.int .i64 (m : Int))) w = .ok (.slice (some ⟨w.heap.size, 0, none⟩) m m) (w.alloc (.cells cs0 102)) := by
  have hi : (Try.prog.info? 102) = some ((Try.prog.info? 102).get (by kernel_rfl)) := (Option.some_get _).symm
  have hsz : ((Try.prog.info? 102).get (by kernel_rfl)).size = 3 := by kernel_rfl
  have hz : ((Try.prog.info? 102).get (by kernel_rfl)).zero = some (.agg #[.int .i64 0, .int .i64 0, .slice none 0 0]) := by kernel_rfl
  have hby : ((Try.prog.info? 102).get (by kernel_rfl)).bytes = 40 := by kernel_rfl
  refine ⟨madeCells (Value.agg #[.int .i64 0, .int .i64 0, .slice none 0 0]).cells (m * 3), by simp [madeCells], fun w => ?_⟩
  have h := run_makeSlice (P := Try.prog) w 27 102 _ _ Try.underlying27 hi hz .i64 .i64 (m : Int) (m : Int) (by omega) (Int.le_refl _) (by rw [hsz]; simp; omega) (by rw [hby]; omega) (by omega)
  rw [hsz, Int.toNat_natCast] at h
  exact h

theorem ext_drewN (w : World) (n : Nat) : Ext w (w.drewN n) := ⟨rfl, rfl, rfl, Nat.le_refl _, fun _ _ => rfl⟩
/-- the parts of a document's node, being made -/
def RefRow (w : World) (rb H k : Nat) (x0 x1 : Int) (ks : List Nat) (A : Option Addr) (c : Nat) : Prop := w.cell? ⟨rb, k * 3, none⟩ = some (.int .i64 x0) ∧ w.cell? ⟨rb, k * 3 + 1, none⟩ = some (.int .i64 x1) ∧ w.cell? ⟨rb, k * 3 + 2, none⟩ = some (.slice A ks.length c) ∧ rowF elN H ks (.slice A ks.length c) w
/-- the parts of a path, being made -/
def PathRow (w : World) (pb lo H k : Nat) (x0 x1 : Int) (ts : List Tr) (B : Option Addr) (d : Nat) : Prop := w.cell? ⟨pb, k * 3, none⟩ = some (.int .i64 x0) ∧ w.cell? ⟨pb, k * 3 + 1, none⟩ = some (.int .i64 x1) ∧ w.cell? ⟨pb, k * 3 + 2, none⟩ = some (.slice B ts.length d) ∧ ∃ xv : List PaV, xv.length = ts.length ∧ rowF elP H xv (.slice B ts.length d) w ∧ ∀ (m : Nat) (t : Tr) (y : PaV), ts[m]? = some t → xv[m]? = some y → TX w lo H t (.int .i64 y.1) (.int .i64 y.2.1) (slv y.2.2)
theorem refRow_upd {fp : Nat → Prop} {w w' : World} {rb H k c : Nat} {x0 x1 : Int} {ks : List Nat} {A : Option Addr} (h : RefRow w rb H k x0 x1 ks A c) (hu : Upd fp w w') (h1 : ¬ fp rb) (h2 : ∀ b, (Value.slice A ks.length c).ownBlock = some b → ¬ fp b) : RefRow w' rb H k x0 x1 ks A c := by
  obtain ⟨k1, k2, k3, k4⟩ := h
  have lb := World.block_lt_of_cell? _ _ k1
  exact ⟨(upd_cell hu lb h1 _).trans k1, (upd_cell hu lb h1 _).trans k2, (upd_cell hu lb h1 _).trans k3, rowF_upd k4 hu h2⟩
theorem pathRow_upd {fp : Nat → Prop} {w w' : World} {pb lo H k d : Nat} {x0 x1 : Int} {ts : List Tr} {B : Option Addr} (h : PathRow w pb lo H k x0 x1 ts B d) (hu : Upd fp w w') (h1 : ¬ fp pb) (h2 : ∀ b, (Value.slice B ts.length d).ownBlock = some b → ¬ fp b) (h3 : ∀ b, fp b → lo ≤ b → H ≤ b) (hH : H ≤ w.heap.size) : PathRow w' pb lo H k x0 x1 ts B d := by
  obtain ⟨k1, k2, k3, xv, k4, k5, k6⟩ := h
  have lb := World.block_lt_of_cell? _ _ k1
  refine ⟨(upd_cell hu lb h1 _).trans k1, (upd_cell hu lb h1 _).trans k2, (upd_cell hu lb h1 _).trans k3, xv, k4, rowF_upd k5 hu h2, fun m t y ht hy => TX_same (fun g o hg hg2 => upd_cell hu (by omega) (fun hh => by have := h3 g hh hg; omega) o) (Nat.le_refl _) _ _ _ _ (k6 m t y ht hy)⟩
/-- the last of a row of paths, set anew -/
theorem rowP_last {w : World} {H g n c i : Nat} {L : List PaV} {z y : PaV} (h : rowF elP H (L ++ [z]) (.slice (some ⟨g, 0, none⟩) n c) w) (hi : i = L.length * 3) :
    rowF elP H (L ++ [y]) (.slice (some ⟨g, 0, none⟩) n c) (((w.setCell ⟨g, i, none⟩ (.int .i64 y.1)).setCell ⟨g, i + 1, none⟩ (.int .i64 y.2.1)).setCell ⟨g, i + 2, none⟩ (slv y.2.2)) := by
  subst hi
  rcases rowE_cases h.1 with ⟨h1, h2⟩ | ⟨g', cap, cur, h1, hg, h2, h3, h4, h5⟩
  · cases h1
  · simp only [Value.slice.injEq, Option.some.injEq, Addr.mk.injEq, and_true] at h1
    obtain ⟨rfl, rfl, rfl⟩ := h1
    have hfl : (flatE elP L).length = L.length * 3 := flatE_length elP L
    have hsz : (L ++ [z]).length * elP.size = L.length * 3 + 3 := by rw [List.length_append]; simp [elP]; omega
    have hsy : (L ++ [y]).length * elP.size = L.length * 3 + 3 := by rw [List.length_append]; simp [elP]; omega
    refine ⟨⟨by rw [flatE_length], .inr ⟨g, c, ((cur.setIfInBounds (L.length * 3) (.int .i64 y.1)).setIfInBounds (L.length * 3 + 1) (.int .i64 y.2.1)).setIfInBounds (L.length * 3 + 2) (slv y.2.2), by simp, Nat.zero_le _, by rw [heap_setCell_at (heap_setCell_at (heap_setCell_at hg))], by simpa using h2, h3, by simp [h4], ?_⟩⟩, h.2⟩
    rw [hsz, flatE_append, flatE_single] at h5
    rw [hsy, flatE_append, flatE_single]
    simp only [Array.toList_setIfInBounds, List.take_set, h5]
    rw [List.set_append_right _ _ (by omega), List.set_append_right _ _ (by omega), List.set_append_right _ _ (by omega), hfl]
    simp [elP]

/-- a node's rows are begun -/
theorem start_node {w wo w2 : World} {bx rb pb sb n lo H k n9 c9 : Nat} {T : List Tr} {x0 x1 : Int} {A9 : Option Addr} (hw : w2 = ((((((((wo.setCell ⟨sb, k, none⟩ (.int .i64 1)).setCell ⟨rb, k * 3, none⟩ (.int .i64 x0)).setCell ⟨rb, k * 3 + 1, none⟩ (.int .i64 x1)).setCell ⟨rb, k * 3 + 2, none⟩ (.slice none 0 0)).setCell ⟨pb, k * 3, none⟩ (.int .i64 x0)).setCell ⟨pb, k * 3 + 1, none⟩ (.int .i64 x1)).setCell ⟨pb, k * 3 + 2, none⟩ (.slice none 0 0)).alloc (.cells #[.int .i64 x0, .int .i64 x1, .slice A9 n9 c9] 26)))
    (hD : Done wo rb pb sb n lo H T (k + 1)) (hR : Rows3 wo rb pb sb n lo) (hlH : lo ≤ H) (hHz : H ≤ wo.heap.size) (hE : Ext w wo) (hbw : w.heap.size ≤ bx) (hbr : bx < rb) (hkn : k < n) (hbx : ∃ a b s, wo.heap[bx]? = some (.cells #[a, b, s] 30 (0, 0))) (hord : rb < pb ∧ pb < sb) :
    Done w2 rb pb sb n lo H T (k + 1) ∧ Rows3 w2 rb pb sb n lo ∧ RefRow w2 rb H k x0 x1 [] none 0 ∧ PathRow w2 pb lo H k x0 x1 [] none 0 ∧ w2.cell? ⟨sb, k, none⟩ = some (.int .i64 ((1 + sizeL [] : Nat) : Int)) ∧ Ext w w2 ∧ (∃ a b s, w2.heap[bx]? = some (.cells #[a, b, s] 30 (0, 0))) ∧ H ≤ w2.heap.size := by
  obtain ⟨h1, h2⟩ := hord
  obtain ⟨w3, hw3⟩ : ∃ w3, w3 = (((((((wo.setCell ⟨sb, k, none⟩ (.int .i64 1)).setCell ⟨rb, k * 3, none⟩ (.int .i64 x0)).setCell ⟨rb, k * 3 + 1, none⟩ (.int .i64 x1)).setCell ⟨rb, k * 3 + 2, none⟩ (.slice none 0 0)).setCell ⟨pb, k * 3, none⟩ (.int .i64 x0)).setCell ⟨pb, k * 3 + 1, none⟩ (.int .i64 x1)).setCell ⟨pb, k * 3 + 2, none⟩ (.slice none 0 0)) := ⟨_, rfl⟩
  rw [← hw3] at hw
  obtain ⟨cr, r1, r2⟩ := hR.r
  obtain ⟨cp, p1, p2⟩ := hR.p
  obtain ⟨cs, s1, s2⟩ := hR.s
  have hz3 : w3.heap.size = wo.heap.size := by rw [hw3]; simp [World.setCell]
  have D3 : Done w3 rb pb sb n lo H T (k + 1) ∧ Rows3 w3 rb pb sb n lo := by
    have a0 := done_set hD hR (.int .i64 1) (b := sb) (o := k) (.inr (.inr ⟨rfl, by omega⟩))
    have b0 := rows3_set hR (.int .i64 1) (b := sb) (o := k) (.inr (.inr rfl))
    have a1 := done_set a0 b0 (.int .i64 x0) (b := rb) (o := k * 3) (.inl ⟨rfl, by omega⟩)
    have b1 := rows3_set b0 (.int .i64 x0) (b := rb) (o := k * 3) (.inl rfl)
    have a2 := done_set a1 b1 (.int .i64 x1) (b := rb) (o := k * 3 + 1) (.inl ⟨rfl, by omega⟩)
    have b2 := rows3_set b1 (.int .i64 x1) (b := rb) (o := k * 3 + 1) (.inl rfl)
    have a3 := done_set a2 b2 (.slice none 0 0) (b := rb) (o := k * 3 + 2) (.inl ⟨rfl, by omega⟩)
    have b3 := rows3_set b2 (.slice none 0 0) (b := rb) (o := k * 3 + 2) (.inl rfl)
    have a4 := done_set a3 b3 (.int .i64 x0) (b := pb) (o := k * 3) (.inr (.inl ⟨rfl, by omega⟩))
    have b4 := rows3_set b3 (.int .i64 x0) (b := pb) (o := k * 3) (.inr (.inl rfl))
    have a5 := done_set a4 b4 (.int .i64 x1) (b := pb) (o := k * 3 + 1) (.inr (.inl ⟨rfl, by omega⟩))
    have b5 := rows3_set b4 (.int .i64 x1) (b := pb) (o := k * 3 + 1) (.inr (.inl rfl))
    have a6 := done_set a5 b5 (.slice none 0 0) (b := pb) (o := k * 3 + 2) (.inr (.inl ⟨rfl, by omega⟩))
    have b6 := rows3_set b5 (.slice none 0 0) (b := pb) (o := k * 3 + 2) (.inr (.inl rfl))
    rw [hw3]
    exact ⟨a6, b6⟩
  have hE3 : Ext w w3 := by
    rw [hw3]
    exact ext_set (ext_set (ext_set (ext_set (ext_set (ext_set (ext_set hE (by show w.heap.size ≤ sb; omega) _) (by show w.heap.size ≤ rb; omega) _) (by show w.heap.size ≤ rb; omega) _) (by show w.heap.size ≤ rb; omega) _) (by show w.heap.size ≤ pb; omega) _) (by show w.heap.size ≤ pb; omega) _) (by show w.heap.size ≤ pb; omega) _
  have B3 : w3.heap[bx]? = wo.heap[bx]? := by
    rw [hw3]
    repeat rw [Below.heap_setCell _ _ _ _ (by intro e; simp only at e; omega)]
  have S3 : w3.heap[sb]? = some (.cells (cs.setIfInBounds k (.int .i64 1)) 3 (0, 0)) := by
    rw [hw3]
    iterate 6 rw [Below.heap_setCell _ _ _ _ (by intro e; simp only at e; omega)]
    rw [heap_setCell_at s1]
  have P3 : w3.heap[pb]? = some (.cells (((cp.setIfInBounds (k * 3) (.int .i64 x0)).setIfInBounds (k * 3 + 1) (.int .i64 x1)).setIfInBounds (k * 3 + 2) (.slice none 0 0)) 30 (0, 0)) := by
    rw [hw3]
    refine heap_setCell_at (heap_setCell_at (heap_setCell_at ?_))
    iterate 4 rw [Below.heap_setCell _ _ _ _ (by intro e; simp only at e; omega)]
    exact p1
  have R3 : w3.heap[rb]? = some (.cells (((cr.setIfInBounds (k * 3) (.int .i64 x0)).setIfInBounds (k * 3 + 1) (.int .i64 x1)).setIfInBounds (k * 3 + 2) (.slice none 0 0)) 102 (0, 0)) := by
    rw [hw3]
    iterate 3 rw [Below.heap_setCell _ _ _ _ (by intro e; simp only at e; omega)]
    refine heap_setCell_at (heap_setCell_at (heap_setCell_at ?_))
    rw [Below.heap_setCell _ _ _ _ (by intro e; simp only at e; omega)]
    exact r1
  have hEa : Ext w3 w2 := by rw [hw]; exact ext_alloc (ext_refl _) _
  have hlo := hR.sl
  have R4 := (ext_block hEa (block_lt R3)).trans R3
  have P4 := (ext_block hEa (block_lt P3)).trans P3
  have S4 := (ext_block hEa (block_lt S3)).trans S3
  have q1 : k * 3 + 2 < cr.size := by omega
  have q2 : k * 3 + 2 < cp.size := by omega
  have q3 : k < cs.size := by omega
  have hu : Upd (fun _ => False) w3 w2 := upd_of_ext hEa
  refine ⟨done_upd D3.1 D3.2 hu (fun _ h => h.elim) hlH (by omega), rows3_upd D3.2 hu (fun _ h => h.elim), ⟨?_, ?_, ?_, rowF_nil _ _⟩, ⟨?_, ?_, ?_, [], rfl, rowF_nil _ _, fun m t y ht => by simp at ht⟩, ?_, ext_trans hE3 hEa, ?_, ?_⟩
  · rw [block_cell R4]; simp [Array.getElem?_setIfInBounds]; omega
  · rw [block_cell R4]; simp [Array.getElem?_setIfInBounds]; omega
  · rw [block_cell R4]; simp [Array.getElem?_setIfInBounds]; omega
  · rw [block_cell P4]; simp [Array.getElem?_setIfInBounds]; omega
  · rw [block_cell P4]; simp [Array.getElem?_setIfInBounds]; omega
  · rw [block_cell P4]; simp [Array.getElem?_setIfInBounds]; omega
  · rw [block_cell S4]; simp [Array.getElem?_setIfInBounds, sizeL]; omega
  · obtain ⟨a, b, s, hb⟩ := hbx
    exact ⟨a, b, s, (ext_block hEa (block_lt (B3.trans hb))).trans (B3.trans hb)⟩
  · have := ext_size hEa
    omega

/-- what stands while the parts of a node are looked through -/
structure Inn (w wr : World) (bx rb pb sb n lo H k : Nat) (T : List Tr) (x0 x1 : Int) (xs : List Nat) (j : Nat) (os : List Nat) (ts : List Tr) (A : Option Addr) (c : Nat) (B : Option Addr) (d : Nat) : Prop where
  picked : Picked (T.drop (k + 1)) xs j os ts
  done : Done wr rb pb sb n lo H T (k + 1)
  rows : Rows3 wr rb pb sb n lo
  ref : RefRow wr rb H k x0 x1 (os.map (k + 1 + ·)) A c
  path : PathRow wr pb lo H k x0 x1 ts B d
  size : wr.cell? ⟨sb, k, none⟩ = some (.int .i64 ((1 + sizeL ts : Nat) : Int))
  hz : H ≤ wr.heap.size
  box : ∃ a b s, wr.heap[bx]? = some (.cells #[a, b, s] 30 (0, 0))
  ext : Ext w wr
theorem inn_ext {w wr wr' : World} {bx rb pb sb n lo H k : Nat} {T : List Tr} {x0 x1 : Int} {xs : List Nat} {j : Nat} {os : List Nat} {ts : List Tr} {A : Option Addr} {c : Nat} {B : Option Addr} {d : Nat} (h : Inn w wr bx rb pb sb n lo H k T x0 x1 xs j os ts A c B d) (hE : Ext wr wr') (hlH : lo ≤ H) : Inn w wr' bx rb pb sb n lo H k T x0 x1 xs j os ts A c B d := by
  have hu : Upd (fun _ => False) wr wr' := upd_of_ext hE
  obtain ⟨a, b, s, hb⟩ := h.box
  exact ⟨h.picked, done_upd h.done h.rows hu (fun _ h => h.elim) hlH h.hz, rows3_upd h.rows hu (fun _ h => h.elim), refRow_upd h.ref hu (fun h => h) (fun _ _ h => h), pathRow_upd h.path hu (fun h => h) (fun _ _ h => h) (fun _ h => h.elim) h.hz, (ext_cell hE _ _ (World.block_lt_of_cell? _ _ h.size)).trans h.size, Nat.le_trans h.hz (ext_size hE), ⟨a, b, s, (ext_block hE (block_lt hb)).trans hb⟩, ext_trans h.ext hE⟩
theorem filterMap_full {α β : Type} (f : α → Option β) : ∀ (os : List α), (os.filterMap f).length = os.length → ∀ (m : Nat) (t : β), (os.filterMap f)[m]? = some t → ∃ o, os[m]? = some o ∧ f o = some t
  | [], _, m, t, ht => by simp at ht
  | o :: r, hl, m, t, ht => by
    cases hf : f o with
    | none =>
      rw [List.filterMap_cons_none hf] at hl
      have := List.length_filterMap_le f r
      rw [List.length_cons] at hl
      omega
    | some y =>
      rw [List.filterMap_cons_some hf] at hl ht
      rw [List.length_cons, List.length_cons] at hl
      cases m with
      | zero =>
        simp only [List.getElem?_cons_zero, Option.some.injEq] at ht
        subst ht
        exact ⟨o, rfl, hf⟩
      | succ m =>
        simp only [List.getElem?_cons_succ] at ht ⊢
        exact filterMap_full f r (by omega) m t ht
/-- a node is done -/
theorem finish_node {w wr : World} {bx rb pb sb n lo H k : Nat} {L : List Nd} {T : List Tr} {x0 x1 : Int} {xs : List Nat} {j : Nat} {os : List Nat} {ts : List Tr} {A : Option Addr} {c : Nat} {B : Option Addr} {d : Nat} (h : Inn w wr bx rb pb sb n lo H k T x0 x1 xs j os ts A c B d) (hT : T = trs L) (hx : L[k]? = some (x0, x1, xs)) (hp : picks (T.drop (k + 1)) 1 3 xs = os) (hkn : k < n) (hlH : lo ≤ H) : Done wr rb pb sb n lo wr.heap.size T k := by
  have ht : T[k]? = some (.node x0 x1 ts) := by
    have := trs_at hx
    rw [← hT, treeOf] at this
    rw [this, hp, h.picked.trees]
  have hfull : ∀ (m : Nat) (t : Tr), ts[m]? = some t → ∃ o, os[m]? = some o ∧ T[k + 1 + o]? = some t := by
    intro m t hm
    have h1 : (os.filterMap ((T.drop (k + 1))[·]?)).length = os.length := by rw [h.picked.trees, h.picked.len, h.picked.tlen]
    obtain ⟨o, h2, h3⟩ := filterMap_full _ os h1 m t (by rw [h.picked.trees]; exact hm)
    rw [List.getElem?_drop] at h3
    exact ⟨o, h2, h3⟩
  have hsame : SameRows lo H wr wr := fun _ _ _ _ => rfl
  intro q t hq hqt
  rcases Nat.lt_or_ge k q with hlt | hge
  · obtain ⟨k1, ⟨a, b, s, k2, k3, k4, k5⟩, k6⟩ := h.done q t hlt hqt
    exact ⟨TR_same (i := 0) hsame (fun _ _ => rfl) h.hz t q (Nat.zero_le _) k1, ⟨a, b, s, k2, k3, k4, TX_same hsame h.hz t a b s k5⟩, k6⟩
  · obtain rfl : q = k := by omega
    rw [ht] at hqt
    cases hqt
    obtain ⟨r1, r2, r3, r4⟩ := h.ref
    obtain ⟨p1, p2, p3, xv, p4, p5, p6⟩ := h.path
    have hkl : (os.map (q + 1 + ·)).length = ts.length := by rw [List.length_map, h.picked.len, h.picked.tlen]
    rw [hkl] at r3 r4
    refine ⟨?_, ⟨_, _, _, p1, p2, p3, ?_⟩, by rw [sizeT]; exact h.size⟩
    · rw [TR]
      refine ⟨hkn, r1, r2, A, c, r3, by have := (rowE_cap r4.1).2; omega, fun hne => ?_⟩
      obtain ⟨g, hg, hgl⟩ := rowE_some r4.1 (fun e => by rw [e] at hkl; exact hne (List.length_eq_zero_iff.1 hkl.symm))
      subst hg
      refine ⟨g, rfl, by have := r4.2 g rfl; omega, hgl, LR_of ts q g 0 (fun m t hm => ?_)⟩
      obtain ⟨o, ho, hTo⟩ := hfull m t hm
      refine ⟨q + 1 + o, by omega, ?_, TR_same (i := 0) hsame (fun _ _ => rfl) h.hz t _ (Nat.zero_le _) (h.done (q + 1 + o) t (by omega) hTo).1⟩
      have := rowN_cell r4.1 (i := m) (x := q + 1 + o) (by simp [ho])
      rw [Nat.zero_add]
      exact this
    · rw [TX]
      refine ⟨rfl, rfl, B, d, rfl, fun hne => ?_⟩
      obtain ⟨g, hg, hgl⟩ := rowE_some p5.1 (fun e => by rw [e] at p4; exact hne (List.length_eq_zero_iff.1 p4.symm))
      subst hg
      refine ⟨g, rfl, by have := p5.2 g rfl; omega, hgl, LX_of ts g 0 (fun m t hm => ?_)⟩
      obtain ⟨y, hy⟩ : ∃ y, xv[m]? = some y := ⟨_, List.getElem?_eq_getElem (by have := (List.getElem?_eq_some_iff.1 hm).1; omega)⟩
      have q0 := rowE_cell p5.1 hy (j := 0) (u := .int .i64 y.1) rfl
      have q1 := rowE_cell p5.1 hy (j := 1) (u := .int .i64 y.2.1) rfl
      have q2 := rowE_cell p5.1 hy (j := 2) (u := slv y.2.2) rfl
      rw [Nat.zero_add]
      exact ⟨_, _, _, q0, q1, q2, TX_same hsame h.hz _ _ _ _ (p6 m t y hm hy)⟩

/-- what stands while a part is taken -/
structure Mid (w wr : World) (bx rb pb sb n lo H k : Nat) (T : List Tr) (x0 x1 : Int) (ks : List Nat) (ts : List Tr) (A : Option Addr) (c : Nat) (B : Option Addr) (d : Nat) : Prop where
  done : Done wr rb pb sb n lo H T (k + 1)
  rows : Rows3 wr rb pb sb n lo
  ref : RefRow wr rb H k x0 x1 ks A c
  path : PathRow wr pb lo H k x0 x1 ts B d
  hz : H ≤ wr.heap.size
  box : ∃ a b s, wr.heap[bx]? = some (.cells #[a, b, s] 30 (0, 0))
  ext : Ext w wr
theorem inn_mid {w wr : World} {bx rb pb sb n lo H k : Nat} {T : List Tr} {x0 x1 : Int} {xs : List Nat} {j : Nat} {os : List Nat} {ts : List Tr} {A : Option Addr} {c : Nat} {B : Option Addr} {d : Nat} (h : Inn w wr bx rb pb sb n lo H k T x0 x1 xs j os ts A c B d) : Mid w wr bx rb pb sb n lo H k T x0 x1 (os.map (k + 1 + ·)) ts A c B d := ⟨h.done, h.rows, h.ref, h.path, h.hz, h.box, h.ext⟩
section
variable {w wr : World} {bx rb pb sb n lo H k : Nat} {T : List Tr} {x0 x1 : Int} {ks : List Nat} {ts : List Tr} {A : Option Addr} {c : Nat} {B : Option Addr} {d : Nat}
theorem mid_ext {wr' : World} (h : Mid w wr bx rb pb sb n lo H k T x0 x1 ks ts A c B d) (hE : Ext wr wr') (hlH : lo ≤ H) : Mid w wr' bx rb pb sb n lo H k T x0 x1 ks ts A c B d := by
  have hu : Upd (fun _ => False) wr wr' := upd_of_ext hE
  obtain ⟨a, b, s, hb⟩ := h.box
  exact ⟨done_upd h.done h.rows hu (fun _ h => h.elim) hlH h.hz, rows3_upd h.rows hu (fun _ h => h.elim), refRow_upd h.ref hu (fun h => h) (fun _ _ h => h), pathRow_upd h.path hu (fun h => h) (fun _ _ h => h) (fun _ h => h.elim) h.hz, Nat.le_trans h.hz (ext_size hE), ⟨a, b, s, (ext_block hE (block_lt hb)).trans hb⟩, ext_trans h.ext hE⟩
theorem size_setCell (w : World) (p : Addr) (u : Value) : (w.setCell p u).heap.size = w.heap.size := by simp [World.setCell]
theorem mid_size (h : Mid w wr bx rb pb sb n lo H k T x0 x1 ks ts A c B d) (u : Value) (hlH : lo ≤ H) (hbw : w.heap.size ≤ bx) (ho : bx < rb ∧ rb < pb ∧ pb < sb) : Mid w (wr.setCell ⟨sb, k, none⟩ u) bx rb pb sb n lo H k T x0 x1 ks ts A c B d := by
  obtain ⟨a, b, s, hb⟩ := h.box
  have hu : Upd (fun b => b = sb) wr (wr.setCell ⟨sb, k, none⟩ u) := upd_setCell (a := ⟨sb, k, none⟩) u
  have hsl := h.rows.sl
  exact ⟨done_set h.done h.rows u (.inr (.inr ⟨rfl, by omega⟩)), rows3_set h.rows u (.inr (.inr rfl)), refRow_upd h.ref hu (fun e => by omega) (fun b hb e => by have := h.ref.2.2.2.2 b hb; omega), pathRow_upd h.path hu (fun e => by omega) (fun b hb e => by obtain ⟨xv, _, h5, _⟩ := h.path.2.2.2; have := h5.2 b hb; omega) (fun b e hl => by omega) h.hz, by rw [size_setCell]; exact h.hz, ⟨a, b, s, (Below.heap_setCell _ _ _ _ (by intro e; simp only at e; omega)).trans hb⟩, ext_set h.ext (by show w.heap.size ≤ sb; omega) _⟩
theorem mid_ref {w' : World} {A' : Option Addr} {c' q : Nat} (h : Mid w wr bx rb pb sb n lo H k T x0 x1 ks ts A c B d) (hu : Upd (fun b => (Value.slice A ks.length c).ownBlock = some b) wr w') (hr : rowF elN H (ks ++ [q]) (.slice A' (ks.length + 1) c') w') (hlH : lo ≤ H) (hbw : w.heap.size ≤ bx) (ho : bx < rb ∧ rb < pb ∧ pb < sb) (_hkn : k < n) :
    Mid w (w'.setCell ⟨rb, k * 3 + 2, none⟩ (.slice A' (ks.length + 1) c')) bx rb pb sb n lo H k T x0 x1 (ks ++ [q]) ts A' c' B d := by
  obtain ⟨a, b, s, hb⟩ := h.box
  have hfp : ∀ b, (Value.slice A ks.length c).ownBlock = some b → H ≤ b := h.ref.2.2.2.2
  have hsl := h.rows.sl
  obtain ⟨r1, r2, r3, r4⟩ := h.ref
  obtain ⟨p1, p2, p3, xv, p4, p5, p6⟩ := h.path
  have lrb := World.block_lt_of_cell? _ _ r1
  have hD := done_upd h.done h.rows hu hfp hlH h.hz
  have hR := rows3_upd h.rows hu (fun b hb => by have := hfp b hb; omega)
  have hP := pathRow_upd h.path hu (fun e => by have := hfp _ e; omega) (fun b hb e => el_apart r4.1 p5.1 (by decide) e hb) (fun b e _ => hfp b e) h.hz
  have hz' : H ≤ w'.heap.size := Nat.le_trans h.hz hu.size
  have nrb : ¬ (Value.slice A ks.length c).ownBlock = some rb := fun e => by have := hfp _ e; omega
  have t1 := (upd_cell hu lrb nrb (k * 3)).trans r1
  have t2 := (upd_cell hu lrb nrb (k * 3 + 1)).trans r2
  have t3 := (upd_cell hu lrb nrb (k * 3 + 2)).trans r3
  have hu2 : Upd (fun b => b = rb) w' (w'.setCell ⟨rb, k * 3 + 2, none⟩ (.slice A' (ks.length + 1) c')) := upd_setCell (a := ⟨rb, k * 3 + 2, none⟩) _
  have hkl : (ks ++ [q]).length = ks.length + 1 := by simp
  refine ⟨done_set hD hR _ (.inl ⟨rfl, by omega⟩), rows3_set hR _ (.inl rfl), ⟨?_, ?_, ?_, ?_⟩, pathRow_upd hP hu2 (fun e => by omega) (fun b hb e => by obtain ⟨xv, _, h5, _⟩ := hP.2.2.2; have := h5.2 b hb; omega) (fun b e hl => by omega) hz', by rw [size_setCell]; exact hz', ⟨a, b, s, (Below.heap_setCell _ _ _ _ (by intro e; simp only at e; omega)).trans ((hu.block bx (block_lt hb) (fun e => by have := hfp _ e; omega)).trans hb)⟩, ?_⟩
  · rw [World.cell?_setCell_other _ _ _ _ (fun e => by simp only [Addr.mk.injEq] at e; omega)]; exact t1
  · rw [World.cell?_setCell_other _ _ _ _ (fun e => by simp only [Addr.mk.injEq] at e; omega)]; exact t2
  · rw [hkl]; exact World.cell?_setCell_same _ _ _ t3
  · rw [hkl]; exact rowF_upd hr hu2 (fun b hb e => by have := hr.2 b hb; omega)
  · refine ext_set ?_ (by show w.heap.size ≤ rb; omega) _
    have hwH : w.heap.size ≤ H := by omega
    exact ext_of_upd (upd_trans (upd_of_ext (fp := fun _ => False) h.ext) hu (fun i hi e => by have := hfp i e; omega))
theorem mid_path {w6 : World} {g' d' k3 : Nat} {xv : List PaV} {y : PaV} {t : Tr} (h : Mid w wr bx rb pb sb n lo H k T x0 x1 ks ts A c B d) (hxv : xv.length = ts.length) (hx6 : ∀ (m : Nat) (t : Tr) (y : PaV), ts[m]? = some t → xv[m]? = some y → TX wr lo H t (.int .i64 y.1) (.int .i64 y.2.1) (slv y.2.2)) (hty : TX wr lo H t (.int .i64 y.1) (.int .i64 y.2.1) (slv y.2.2)) (hu : Upd (fun b => (Value.slice B ts.length d).ownBlock = some b) wr w6) (hr : rowF elP H (xv ++ [(0, 0, (none, 0, 0))]) (.slice (some ⟨g', 0, none⟩) (ts.length + 1) d') w6) (hk3 : k3 = ts.length * 3) (hlH : lo ≤ H) (hbw : w.heap.size ≤ bx) (ho : bx < rb ∧ rb < pb ∧ pb < sb) (_hkn : k < n) :
    Mid w ((((w6.setCell ⟨g', k3, none⟩ (.int .i64 y.1)).setCell ⟨g', k3 + 1, none⟩ (.int .i64 y.2.1)).setCell ⟨g', k3 + 2, none⟩ (slv y.2.2)).setCell ⟨pb, k * 3 + 2, none⟩ (.slice (some ⟨g', 0, none⟩) (ts.length + 1) d')) bx rb pb sb n lo H k T x0 x1 ks (ts ++ [t]) A c (some ⟨g', 0, none⟩) d' := by
  obtain ⟨a, b, s, hb⟩ := h.box
  obtain ⟨p1, p2, p3, xv', p4, p5, p6⟩ := h.path
  have hfp : ∀ b, (Value.slice B ts.length d).ownBlock = some b → H ≤ b := p5.2
  have hsl := h.rows.sl
  obtain ⟨r1, r2, r3, r4⟩ := h.ref
  have hg : H ≤ g' := hr.2 g' rfl
  obtain ⟨w7, hw7⟩ : ∃ w7, w7 = ((w6.setCell ⟨g', k3, none⟩ (.int .i64 y.1)).setCell ⟨g', k3 + 1, none⟩ (.int .i64 y.2.1)).setCell ⟨g', k3 + 2, none⟩ (slv y.2.2) := ⟨_, rfl⟩
  have hr7 := rowP_last (y := y) (i := k3) hr (by rw [hxv]; exact hk3)
  rw [← hw7] at hr7 ⊢
  have hu7 : Upd (fun b => b = g') w6 w7 := by
    rw [hw7]
    exact upd_trans (upd_trans (upd_setCell (a := ⟨g', k3, none⟩) _) (upd_setCell (a := ⟨g', k3 + 1, none⟩) _) (fun _ _ h => h)) (upd_setCell (a := ⟨g', k3 + 2, none⟩) _) (fun _ _ h => h)
  have hua : Upd (fun b => (Value.slice B ts.length d).ownBlock = some b ∨ b = g') wr w7 := upd_trans (upd_mono hu (fun _ _ h => .inl h)) hu7 (fun _ _ h => .inr h)
  have hfa : ∀ b, ((Value.slice B ts.length d).ownBlock = some b ∨ b = g') → H ≤ b := fun b hb => by
    rcases hb with hb | rfl
    · exact hfp b hb
    · exact hg
  have r46 : rowF elN H ks (.slice A ks.length c) w6 := rowF_upd r4 hu (fun b hb e => el_apart r4.1 p5.1 (by decide) hb e)
  have hD := done_upd h.done h.rows hua hfa hlH h.hz
  have hR := rows3_upd h.rows hua (fun b hb => by have := hfa b hb; omega)
  have hRR := refRow_upd h.ref hua (fun e => by have := hfa _ e; omega) (fun b hb e => by
    rcases e with e | rfl
    · exact el_apart r4.1 p5.1 (by decide) hb e
    · exact el_apart r46.1 hr.1 (by decide) hb rfl)
  have lpb := World.block_lt_of_cell? _ _ p1
  have npb : ¬ ((Value.slice B ts.length d).ownBlock = some pb ∨ pb = g') := fun e => by have := hfa _ e; omega
  have t1 := (upd_cell hua lpb npb (k * 3)).trans p1
  have t2 := (upd_cell hua lpb npb (k * 3 + 1)).trans p2
  have t3 := (upd_cell hua lpb npb (k * 3 + 2)).trans p3
  have hz7 : H ≤ w7.heap.size := Nat.le_trans h.hz hua.size
  have hu2 : Upd (fun b => b = pb) w7 (w7.setCell ⟨pb, k * 3 + 2, none⟩ (.slice (some ⟨g', 0, none⟩) (ts.length + 1) d')) := upd_setCell (a := ⟨pb, k * 3 + 2, none⟩) _
  have hkl : (ts ++ [t]).length = ts.length + 1 := by simp
  have same1 : SameRows lo H wr w7 := fun g o hg1 hg2 => upd_cell hua (by have := h.hz; omega) (fun e => by have := hfa g e; omega) o
  have same2 : SameRows lo H w7 (w7.setCell ⟨pb, k * 3 + 2, none⟩ (.slice (some ⟨g', 0, none⟩) (ts.length + 1) d')) := fun g o hg1 hg2 => upd_cell hu2 (by omega) (fun e => by omega) o
  have lift : ∀ (t : Tr) (a b s : Value), TX wr lo H t a b s → TX (w7.setCell ⟨pb, k * 3 + 2, none⟩ (.slice (some ⟨g', 0, none⟩) (ts.length + 1) d')) lo H t a b s := fun t a b s hh => TX_same same2 (Nat.le_refl _) t a b s (TX_same same1 (Nat.le_refl _) t a b s hh)
  refine ⟨done_set hD hR _ (.inr (.inl ⟨rfl, by omega⟩)), rows3_set hR _ (.inr (.inl rfl)), refRow_upd hRR hu2 (fun e => by omega) (fun b hb e => by have := hRR.2.2.2.2 b hb; omega), ⟨?_, ?_, ?_, xv ++ [y], by simp [hxv], ?_, fun m t' y' ht hy => ?_⟩, by rw [size_setCell]; exact hz7, ⟨a, b, s, (Below.heap_setCell _ _ _ _ (by intro e; simp only at e; omega)).trans ((hua.block bx (block_lt hb) (fun e => by have := hfa _ e; omega)).trans hb)⟩, ?_⟩
  · rw [World.cell?_setCell_other _ _ _ _ (fun e => by simp only [Addr.mk.injEq] at e; omega)]; exact t1
  · rw [World.cell?_setCell_other _ _ _ _ (fun e => by simp only [Addr.mk.injEq] at e; omega)]; exact t2
  · rw [hkl]; exact World.cell?_setCell_same _ _ _ t3
  · rw [hkl]; exact rowF_upd hr7 hu2 (fun b hb e => by have := hr7.2 b hb; omega)
  · refine lift _ _ _ _ ?_
    rcases Nat.lt_or_ge m ts.length with hm | hm
    · rw [List.getElem?_append_left hm] at ht
      rw [List.getElem?_append_left (by omega)] at hy
      exact hx6 m t' y' ht hy
    · have hme : m = ts.length := by have := (List.getElem?_eq_some_iff.1 ht).1; rw [hkl] at this; omega
      subst hme
      rw [List.getElem?_append_right (Nat.le_refl _)] at ht
      rw [List.getElem?_append_right (by omega), hxv] at hy
      simp at ht hy
      subst ht hy
      exact hty
  · refine ext_set ?_ (by show w.heap.size ≤ pb; omega) _
    exact ext_of_upd (upd_trans (upd_of_ext (fp := fun _ => False) h.ext) hua (fun i hi e => by have := hfa i e; omega))
end

end Go.Proofs.Ytiabmdboacpmcaa
/- Tree: the walk. -/
namespace Go.Proofs.Ytiabmdboacpmcaa
open Go Go.RowKit Go.Sort
set_option maxHeartbeats 2000000

/-- the nodes that count: of none, one -/
def nodesOf (L : List Nd) : List Nd := if L = [] then [(0, 0, [])] else L
def TreePost (L : List Nd) (w : World) (e : Ending) (w' : World) : Prop := ∃ rb n lo H t a b s, e = .returned (.tuple #[.slice (some ⟨rb, 0, none⟩) n n, .agg #[a, b, s]]) ∧ n = (nodesOf L).length ∧ (trs (nodesOf L))[0]? = some t ∧ TR w' rb n lo H t 0 ∧ TX w' lo H t a b s ∧ rb < lo ∧ lo ≤ H ∧ H ≤ w'.heap.size ∧ Ext w w'
theorem setCell_swap (w : World) {p q : Nat} (o r : Nat) (h : p ≠ q) {u v : Value} : (w.setCell ⟨p, o, none⟩ u).setCell ⟨q, r, none⟩ v = (w.setCell ⟨q, r, none⟩ v).setCell ⟨p, o, none⟩ u := by
  simp only [World.setCell]
  congr 1
  apply Array.ext_getElem?
  intro i
  simp only [Array.getElem?_modify]
  by_cases h1 : p = i
  · subst h1
    simp [h.symm]
  · simp [h1]
theorem TX_form {w : World} {lo H : Nat} {t : Tr} {a b s : Value} (h : TX w lo H t a b s) : ∃ (k n : Int) (A : Option Addr) (m c : Nat), a = .int .i64 k ∧ b = .int .i64 n ∧ s = .slice A m c := by
  cases t with
  | node k n ps =>
    rw [TX] at h
    obtain ⟨h1, h2, A, c, h3, _⟩ := h
    exact ⟨_, _, _, _, _, h1, h2, h3⟩
set_option maxRecDepth 100000 in
theorem tree_some (v : Value) (L : List Nd) (w : World) (hv : RdNd w v L) (hL : L.length ≤ 60) (hne0 : L ≠ []) : Calls Try.prog 20 #[v] w (TreePost L w) := by
  obtain ⟨A0, c0, rfl, hc0, hb0, hA⟩ := hv
  have HA := Lib.hid hA
  have HB0 := Lib.hid hb0
  clear hA hb0
  rcases List.eq_nil_or_concat L with rfl | ⟨L', x0, hL0⟩
  · exact absurd rfl hne0
  · obtain ⟨cr, hcr, mr⟩ := make_refs L.length (by omega)
    obtain ⟨cp, hcp, mp⟩ := make_paths L.length (by omega)
    obtain ⟨cs, hcs, ms⟩ := make_ints L.length (by omega)
    have HCR := Lib.hid hcr
    have HCP := Lib.hid hcp
    have HCS := Lib.hid hcs
    have hpos : 0 < L.length := by rw [hL0]; simp
    have HL0 := Lib.hid hL0
    clear hcr hcp hcs hL0
    go_enter Try.func20, Try.ntmps20
    go_wp2_with fail
    have hE0 := ext_alloc (ext_refl w) (.cells #[.int .i64 0, .int .i64 0, .slice none 0 0] 30)
    have hE1 := ext_alloc hE0 (.cells cr 102)
    have hE2 := ext_alloc hE1 (.cells cp 30)
    have hE3 := ext_alloc hE2 (.cells cs 3)
    obtain ⟨W0, hW0⟩ : ∃ W0, W0 = ((((w.alloc (.cells #[.int .i64 0, .int .i64 0, .slice none 0 0] 30)).alloc (.cells cr 102)).alloc (.cells cp 30)).alloc (.cells cs 3)) := ⟨_, rfl⟩
    have hz0 : W0.heap.size = w.heap.size + 1 + 1 + 1 + 1 := by rw [hW0]; simp
    obtain ⟨wa, hwa⟩ : ∃ wa, wa = w.alloc (.cells #[.int .i64 0, .int .i64 0, .slice none 0 0] 30) := ⟨_, rfl⟩
    have ha0 := heap_alloc_new w (.cells #[.int .i64 0, .int .i64 0, .slice none 0 0] 30)
    have hza : wa.heap.size = w.heap.size + 1 := by rw [hwa]; simp
    rw [← hwa] at ha0 hW0
    obtain ⟨wb, hwb⟩ : ∃ wb, wb = wa.alloc (.cells cr 102) := ⟨_, rfl⟩
    have ha1 := heap_alloc_new wa (.cells cr 102)
    have hzb : wb.heap.size = w.heap.size + 1 + 1 := by rw [hwb]; simp; omega
    have hEb := ext_alloc (ext_refl wa) (.cells cr 102)
    rw [← hwb] at ha1 hW0 hEb
    obtain ⟨wc, hwc⟩ : ∃ wc, wc = wb.alloc (.cells cp 30) := ⟨_, rfl⟩
    have ha2 := heap_alloc_new wb (.cells cp 30)
    have hEc := ext_alloc (ext_refl wb) (.cells cp 30)
    rw [← hwc] at ha2 hW0 hEc
    have hEd : Ext wc W0 := by rw [hW0]; exact ext_alloc (ext_refl _) _
    rw [hza] at ha1
    rw [hzb] at ha2
    have hb0 := (ext_block (ext_trans hEb (ext_trans hEc hEd)) (block_lt ha0)).trans ha0
    have hb1 := (ext_block (ext_trans hEc hEd) (block_lt ha1)).trans ha1
    have hb2 := (ext_block hEd (block_lt ha2)).trans ha2
    have hW1 := hW0
    rw [hwc, hwb, hwa] at hW1
    have hb3 : W0.heap[w.heap.size + 1 + 1 + 1]? = some (.cells cs 3 (0, 0)) := by
      rw [hW1]
      have := heap_alloc_new (((w.alloc (.cells #[.int .i64 0, .int .i64 0, .slice none 0 0] 30)).alloc (.cells cr 102)).alloc (.cells cp 30)) (.cells cs 3)
      rwa [World.size_alloc, World.size_alloc, World.size_alloc] at this
    rw [← hW1] at hE3 ⊢
    clear hwa ha0 hza hwb ha1 hzb hEb hwc ha2 hEc hEd hW0
    have HE0 := Lib.hid hE3
    have HB0 := Lib.hid hb0
    obtain ⟨lo, hlo⟩ : ∃ lo, lo = W0.heap.size := ⟨_, rfl⟩
    have HR0 := Lib.hid (show Rows3 W0 (w.heap.size + 1) (w.heap.size + 1 + 1) (w.heap.size + 1 + 1 + 1) L.length lo from ⟨⟨cr, hb1, HCR.out⟩, ⟨cp, hb2, HCP.out⟩, ⟨cs, hb3, HCS.out⟩, by omega, by omega, by omega, by omega, by omega, by omega⟩)
    obtain ⟨bx, hbx⟩ : ∃ bx, bx = w.heap.size := ⟨_, rfl⟩
    obtain ⟨rb, hrb⟩ : ∃ rb, rb = w.heap.size + 1 := ⟨_, rfl⟩
    obtain ⟨pb, hpb⟩ : ∃ pb, pb = w.heap.size + 1 + 1 := ⟨_, rfl⟩
    obtain ⟨sb, hsb⟩ : ∃ sb, sb = w.heap.size + 1 + 1 + 1 := ⟨_, rfl⟩
    have hbxl : bx < lo := by omega
    have hbw : w.heap.size ≤ bx := by omega
    have hbr : bx < rb := by omega
    have hrp : rb < pb := by omega
    have hps : pb < sb := by omega
    have hsl : sb < lo := by omega
    have hlz : lo ≤ W0.heap.size := by omega
    rw [← hsb, ← hpb, ← hrb] at HR0
    rw [← hbx] at HB0
    rw [← hsb, ← hpb, ← hrb, ← hbx]
    clear hsb hpb hrb hbx hlo hz0 hb0 hb1 hb2 hb3 hW1 hE0 hE1 hE2 hE3 mr mp ms HCR HCP HCS cr cp cs
    obtain ⟨n, hn⟩ : ∃ n, n = L.length := ⟨_, rfl⟩
    rw [← hn] at HR0 hL hc0 hpos
    rw [← hn]
    have HN := Lib.hid hn
    clear hn
    obtain ⟨T, hT⟩ : ∃ T, T = trs L := ⟨_, rfl⟩
    have HT := Lib.hid hT
    clear hT
    go_loopw [7] (fun x wr => ∃ (m H : Nat), m ≤ n ∧ x = .int .i64 ((m : Int) - 1) ∧ Done wr rb pb sb n lo H T m ∧ Rows3 wr rb pb sb n lo ∧ lo ≤ H ∧ H ≤ wr.heap.size ∧ (∃ a b s, wr.heap[bx]? = some (.cells #[a, b, s] 30 (0, 0))) ∧ Ext w wr) (fun x _ => (intOf x + 1).toNat)
    case atStart => exact ⟨n, lo, Nat.le_refl _, rfl, fun k t hk ht => by
        have := (List.getElem?_eq_some_iff.1 ht).1
        rw [HT.out, trs_length, ← HN.out] at this
        omega, HR0.out, Nat.le_refl _, hlz, ⟨_, _, _, HB0.out⟩, HE0.out⟩
    case round =>
      rename World => wo
      obtain ⟨m, H, hm, rfl, hD, hR, hlH, hHz, hbxo, hE⟩ := hrel
      have HD := Lib.hid hD
      have HR := Lib.hid hR
      have HBX := Lib.hid hbxo
      have HE := Lib.hid hE
      clear hD hbxo hE
      rcases Nat.eq_zero_or_pos m with rfl | hmp
      · obtain ⟨t, ht⟩ : ∃ t, T[0]? = some t := ⟨_, List.getElem?_eq_getElem (by rw [HT.out, trs_length, ← HN.out]; omega)⟩
        obtain ⟨d1, ⟨a7, b7, s7, d2, d3, d4, d5⟩, d6⟩ := HD.out 0 t (Nat.le_refl _) ht
        obtain ⟨tk, tn, tA, tm, tc, rfl, rfl, rfl⟩ := TX_form d5
        rw [Nat.zero_mul] at d2 d3 d4
        rw [Nat.zero_add] at d3 d4
        have D1 := Lib.hid d1
        have D5 := Lib.hid d5
        have HTT := Lib.hid ht
        have lp := World.block_lt_of_cell? _ _ d2
        have hni : (0 : Int) < (n : Int) := by omega
        have hgc := cell_grown
        have hNE : Hid (nodesOf L = L) := Lib.hid (by
          unfold nodesOf
          rw [if_neg]
          intro e
          have := HN.out
          rw [e] at this
          simp at this
          omega)
        clear d1 d5 d6 ht hR
        go_wp2_with fail
        refine wp_region_mix [] [0, 1, 2, 3, 4] [] [5] (by kernel_rfl) (by kernel_rfl) (fun _ _ d _ _ h => by cases d <;> exact h) ?_
        refine wpPre_nil ?_
        repeat (refine wpLoose_step rfl (fun K hK => ?_); (try simp only [Oper.quietAt, Oper.quietUpon]); go_simp; (refine hK _ ?_; clear hK K))
        refine wpLoose_nil (wpFresh_nil (fun w3 hE3 _ => ?_))
        obtain ⟨b0, b1, b2, hb⟩ := HBX.out
        have hb3 := (ext_block hE3 (block_lt hb)).trans hb
        have y0 := block_cell hb3 0
        have y1 := block_cell hb3 1
        have y2 := block_cell hb3 2
        have f0 := block_frozen hb3 0
        have f1 := block_frozen hb3 1
        have f2 := block_frozen hb3 2
        simp at y0 y1 y2
        have lb3 := block_lt hb3
        have HE3 := Lib.hid hE3
        have HB3 := Lib.hid hb3
        clear hE3 hb hb3 hgc d2 d3 d4 lp
        refine wpSeq_of_list [5] [_] _ _ rfl ?_
        go_wp2
        obtain ⟨wF, hwF⟩ : ∃ wF, wF = ((w3.setCell ⟨bx, 0, none⟩ (.int .i64 tk)).setCell ⟨bx, 1, none⟩ (.int .i64 tn)).setCell ⟨bx, 2, none⟩ (.slice tA tm tc) := ⟨_, rfl⟩
        have hbF : wF.heap[bx]? = some (.cells #[.int .i64 tk, .int .i64 tn, .slice tA tm tc] 30 (0, 0)) := by
          rw [hwF, heap_setCell_at (heap_setCell_at (heap_setCell_at HB3.out))]
          rfl
        have huF : Upd (fun b => b = bx) w3 wF := by
          rw [hwF]
          exact upd_trans (upd_trans (upd_setCell (a := ⟨bx, 0, none⟩) _) (upd_setCell (a := ⟨bx, 1, none⟩) _) (fun _ _ h => h)) (upd_setCell (a := ⟨bx, 2, none⟩) _) (fun _ _ h => h)
        have hua : Upd (fun b => b = bx) wo wF := upd_trans (upd_of_ext (fp := fun b => b = bx) HE3.out) huF (fun _ _ h => h)
        rw [← hwF]
        clear hwF y0 y1 y2 f0 f1 f2 lb3
        have c0 := block_cell hbF 0
        have c1 := block_cell hbF 1
        have c2 := block_cell hbF 2
        simp at c0 c1 c2
        refine bodyPost_ret (v := .tuple #[.slice (some ⟨rb, 0, none⟩) n n, .agg #[.int .i64 tk, .int .i64 tn, .slice tA tm tc]]) (by simp [results, Try.results20, go_sem, c0, c1, c2]) rfl ?_
        have hsz := hua.size
        have same : SameRows lo H wo wF := fun g o hg1 hg2 => upd_cell hua (by omega) (fun e => by omega) o
        obtain ⟨⟨cr, hcr, _⟩, _⟩ := HR.out
        have hrw : ∀ o, 0 * 3 ≤ o → wF.cell? ⟨rb, o, none⟩ = wo.cell? ⟨rb, o, none⟩ := fun o _ => upd_cell hua (block_lt hcr) (fun e => by omega) o
        refine ⟨rb, n, lo, H, t, _, _, _, rfl, by rw [hNE.out]; exact HN.out, by rw [hNE.out, ← HT.out]; exact HTT.out, TR_same same hrw (Nat.le_refl _) t 0 (Nat.zero_le _) D1.out, TX_same same (Nat.le_refl _) _ _ _ _ D5.out, by omega, hlH, by omega, ?_⟩
        exact ext_of_upd (upd_trans (upd_of_ext (fp := fun _ => False) HE.out) hua (fun i hi e => by omega))
      · obtain ⟨k, rfl⟩ : ∃ k, m = k + 1 := ⟨m - 1, by omega⟩
        have hkn : k < n := by omega
        rw [show ((k + 1 : Nat) : Int) - 1 = (k : Int) by omega]
        obtain ⟨x, hx⟩ : ∃ x, L[k]? = some x := ⟨_, List.getElem?_eq_getElem (by rw [← HN.out]; exact hkn)⟩
        obtain ⟨lb, off, hA0, hlb, hcs⟩ := HA.out (fun e => by rw [e] at hx; simp at hx)
        obtain ⟨x0, x1, xs⟩ := x
        obtain ⟨j0, j1, vs, j2, j3⟩ := hcs k _ hx
        have q0 := (ext_cell HE.out _ _ hlb).trans j0
        have q1 := (ext_cell HE.out _ _ hlb).trans j1
        have q2 := (ext_cell HE.out _ _ hlb).trans j2
        have hbo := HB0.out
        obtain ⟨A9, c9, rfl, hc9, hb9, hA9⟩ := j3
        have HX := Lib.hid hx
        have HA9 := Lib.hid hA9
        have HB9 := Lib.hid hb9
        have llb := ext_lt HE.out hlb
        subst hA0
        obtain ⟨⟨cr, r1, r2⟩, ⟨cp, p1, p2⟩, ⟨cs, s1, s2⟩, -, -, -, -, -, -⟩ := hR
        have lr := block_lt r1
        have lp := block_lt p1
        have ls := block_lt s1
        obtain ⟨u0, hu0⟩ : ∃ u, cr[k * 3]? = some u := ⟨_, Array.getElem?_eq_getElem (by omega)⟩
        obtain ⟨u1, hu1⟩ : ∃ u, cr[k * 3 + 1]? = some u := ⟨_, Array.getElem?_eq_getElem (by omega)⟩
        obtain ⟨u2, hu2⟩ : ∃ u, cr[k * 3 + 2]? = some u := ⟨_, Array.getElem?_eq_getElem (by omega)⟩
        obtain ⟨v0, hv0⟩ : ∃ u, cp[k * 3]? = some u := ⟨_, Array.getElem?_eq_getElem (by omega)⟩
        obtain ⟨v1, hv1⟩ : ∃ u, cp[k * 3 + 1]? = some u := ⟨_, Array.getElem?_eq_getElem (by omega)⟩
        obtain ⟨v2, hv2⟩ : ∃ u, cp[k * 3 + 2]? = some u := ⟨_, Array.getElem?_eq_getElem (by omega)⟩
        obtain ⟨z0, hz0⟩ : ∃ u, cs[k]? = some u := ⟨_, Array.getElem?_eq_getElem (by omega)⟩
        have e0 := (block_cell r1 (k * 3)).trans hu0
        have e1 := (block_cell r1 (k * 3 + 1)).trans hu1
        have e2 := (block_cell r1 (k * 3 + 2)).trans hu2
        have e3 := (block_cell p1 (k * 3)).trans hv0
        have e4 := (block_cell p1 (k * 3 + 1)).trans hv1
        have e5 := (block_cell p1 (k * 3 + 2)).trans hv2
        have e6 := (block_cell s1 k).trans hz0
        have f0 := block_frozen r1 (k * 3)
        have f1 := block_frozen r1 (k * 3 + 1)
        have f2 := block_frozen r1 (k * 3 + 2)
        have f3 := block_frozen p1 (k * 3)
        have f4 := block_frozen p1 (k * 3 + 1)
        have f5 := block_frozen p1 (k * 3 + 2)
        have f6 := block_frozen s1 k
        have hki : (k : Int) < (n : Int) := by omega
        have hk0 : (0 : Int) ≤ (k : Int) := by omega
        clear j0 j1 j2 hcs hx hA9 hb9 r1 r2 p1 p2 s1 s2 hu0 hu1 hu2 hv0 hv1 hv2 hz0 hbo
        have hnr : rb ≠ pb := by omega
        have hns : rb ≠ sb := by omega
        have hnp : pb ≠ sb := by omega
        go_wp2_with fail
        obtain ⟨w2, hw2⟩ : ∃ w2, w2 = ((((((((wo.setCell ⟨sb, k, none⟩ (.int .i64 1)).setCell ⟨rb, k * 3, none⟩ (.int .i64 x0)).setCell ⟨rb, k * 3 + 1, none⟩ (.int .i64 x1)).setCell ⟨rb, k * 3 + 2, none⟩ (.slice none 0 0)).setCell ⟨pb, k * 3, none⟩ (.int .i64 x0)).setCell ⟨pb, k * 3 + 1, none⟩ (.int .i64 x1)).setCell ⟨pb, k * 3 + 2, none⟩ (.slice none 0 0)).alloc (.cells #[.int .i64 x0, .int .i64 x1, .slice A9 xs.length c9] 26)) := ⟨_, rfl⟩
        obtain ⟨g1, g2, g3, g4, g5, g6, g7⟩ := start_node (A9 := A9) (n9 := xs.length) (c9 := c9) hw2 HD.out HR.out hlH hHz HE.out hbw hbr hkn HBX.out (by omega)
        rw [← hw2]
        have D2 := Lib.hid g1
        have R2 := Lib.hid g2
        have RR2 := Lib.hid g3
        have PR2 := Lib.hid g4
        have SZ2 := Lib.hid g5
        have E2 := Lib.hid g6
        have BX2 := Lib.hid g7.1
        have hz2 := g7.2
        clear g1 g2 g3 g4 g5 g6 g7 hw2 e0 e1 e2 e3 e4 e5 e6 f0 f1 f2 f3 f4 f5 f6 q0 q1 q2 lr lp ls llb
        go_loopw [59] (fun x wr => ∃ (j : Nat) (os : List Nat) (ts : List Tr) (A : Option Addr) (c : Nat) (B : Option Addr) (d : Nat), j ≤ xs.length ∧ x = .int .i64 (j : Int) ∧ Inn w wr bx rb pb sb n lo H k T x0 x1 xs j os ts A c B d) (fun x _ => xs.length - (intOf x).toNat)
        case atStart => exact ⟨0, [], [], none, 0, none, 0, Nat.zero_le _, rfl, ⟨picked_nil _ _, D2.out, R2.out, RR2.out, PR2.out, SZ2.out, hz2, BX2.out, E2.out⟩⟩
        case round =>
          rename World => wr
          obtain ⟨j, os, ts, A, c, B, d, hj, rfl, hI⟩ := hrel
          have HI := Lib.hid hI
          clear hI
          by_cases hlt : j < xs.length
          · obtain ⟨y, hy⟩ : ∃ y, xs[j]? = some y := ⟨_, List.getElem?_eq_getElem hlt⟩
            have hxn : xs ≠ [] := fun e => by rw [e] at hy; simp at hy
            obtain ⟨b9, off9, hA9e, hb9l, hc9'⟩ := HA9.out hxn
            subst hA9e
            have q0 := (ext_cell HI.out.ext _ _ hb9l).trans (hc9' j y hy)
            have l9 := ext_lt HI.out.ext hb9l
            have hy8 := HB9.out y (List.mem_of_getElem? hy)
            have hym : y % 8 < 8 := Nat.mod_lt _ (by decide)
            have HY := Lib.hid hy
            have hji : (j : Int) < (xs.length : Int) := by omega
            have hj0 : (0 : Int) ≤ (j : Int) := by omega
            clear hc9' hxn hy
            go_wp2_with fail
            rw [show (k : Int) + 1 + (y : Int) % 8 = ((k + 1 + y % 8 : Nat) : Int) by omega]
            obtain ⟨q, hq⟩ : ∃ q, q = k + 1 + y % 8 := ⟨_, rfl⟩
            have hq1 : k + 1 ≤ q := by omega
            have hq2 : q ≤ k + 8 := by omega
            rw [← hq]
            have HQ := Lib.hid hq
            clear hq q0 l9
            have z1 := HI.out.size
            have lz := World.block_lt_of_cell? _ _ z1
            obtain ⟨sz, hsz⟩ : ∃ sz, sz = 1 + sizeL ts := ⟨_, rfl⟩
            have hszf : sz ≤ 300 := by rw [hsz]; exact HI.out.picked.fit
            rw [← hsz] at z1
            have HSZ := Lib.hid hsz
            clear hsz
            by_cases h3 : j = 3
            · have hd : ((j : Int) == 3) = true := by rw [h3]; rfl
              have hp := Lib.hid (picked_end HI.out.picked (.inr (.inl h3)))
              clear h3
              go_quiet (fail)
              go_wp2
              go_roundw
              case rel => exact ⟨k, _, by omega, by go_num, finish_node (inn_ext HI.out (ext_drewN _ _) hlH) HT.out HX.out hp.out hkn hlH, (inn_ext HI.out (ext_drewN _ _) hlH).rows, by have := HI.out.hz; have := ext_size (ext_drewN wr nq); omega, Nat.le_refl _, (inn_ext HI.out (ext_drewN _ _) hlH).box, ext_trans HI.out.ext (ext_drewN _ _)⟩
              case measure => simp [intOf]
            · have hd : ((j : Int) == 3) = false := by simp; omega
              by_cases hqn : n ≤ q
              · have hd2 : decide ((n : Int) ≤ (q : Int)) = true := by simp; omega
                have hp := Lib.hid (picked_end HI.out.picked (.inr (.inr ⟨y, HY.out, .inl (by
                  rw [List.getElem?_drop, ← HQ.out]
                  refine List.getElem?_eq_none ?_
                  rw [HT.out, trs_length, ← HN.out]
                  exact hqn)⟩)))
                go_quiet (fail)
                go_wp2
                go_roundw
                case rel => exact ⟨k, _, by omega, by go_num, finish_node (inn_ext HI.out (ext_drewN _ _) hlH) HT.out HX.out hp.out hkn hlH, (inn_ext HI.out (ext_drewN _ _) hlH).rows, by have := HI.out.hz; have := ext_size (ext_drewN wr nq); omega, Nat.le_refl _, (inn_ext HI.out (ext_drewN _ _) hlH).box, ext_trans HI.out.ext (ext_drewN _ _)⟩
                case measure => simp [intOf]
              · have hd2 : decide ((n : Int) ≤ (q : Int)) = false := by simp; omega
                obtain ⟨t, ht⟩ : ∃ t, T[q]? = some t := ⟨_, List.getElem?_eq_getElem (by rw [HT.out, trs_length, ← HN.out]; omega)⟩
                have htR : (T.drop (k + 1))[y % 8]? = some t := by rw [List.getElem?_drop, ← HQ.out]; exact ht
                obtain ⟨d1, ⟨a2, b2, s2, d2, d3, d4, d5⟩, d6⟩ := HI.out.done q t hq1 ht
                have hts : sizeT t ≤ 300 := trs_size L t (by rw [← HT.out]; exact List.mem_of_getElem? ht)
                have D5 := Lib.hid d5
                have D2a := Lib.hid d2
                have D3a := Lib.hid d3
                have D4a := Lib.hid d4
                have HTQ := Lib.hid ht
                have HTR := Lib.hid htR
                obtain ⟨st, hst⟩ : ∃ st, st = sizeT t := ⟨_, rfl⟩
                rw [← hst] at d6 hts
                have HST := Lib.hid hst
                have hqi : (q : Int) < (n : Int) := by omega
                have hq0 : (0 : Int) ≤ (q : Int) := by omega
                have hsum : IntKind.i64.wrap ((sz : Int) + (st : Int)) = (sz : Int) + (st : Int) := wrap_small _ (by omega) (by omega)
                clear d1 d2 d3 d4 d5 ht htR hst
                by_cases hf : 300 < sz + st
                · have hd3 : decide ((300 : Int) < (sz : Int) + (st : Int)) = true := by simp; omega
                  have hp := Lib.hid (picked_end HI.out.picked (.inr (.inr ⟨y, HY.out, .inr ⟨t, HTR.out, by rw [← HSZ.out, ← HST.out]; exact hf⟩⟩)))
                  go_quiet (fail)
                  go_wp2
                  go_roundw
                  case rel => exact ⟨k, _, by omega, by go_num, finish_node (inn_ext HI.out (ext_drewN _ _) hlH) HT.out HX.out hp.out hkn hlH, (inn_ext HI.out (ext_drewN _ _) hlH).rows, by have := HI.out.hz; have := ext_size (ext_drewN wr nq); omega, Nat.le_refl _, (inn_ext HI.out (ext_drewN _ _) hlH).box, ext_trans HI.out.ext (ext_drewN _ _)⟩
                  case measure => simp [intOf]
                · have hd3 : decide ((300 : Int) < (sz : Int) + (st : Int)) = false := by simp; omega
                  go_quiet (fail)
                  go_wp2_with fail
                  have hE1 := ext_drewN wr nq
                  have HP := Lib.hid HI.out.picked
                  have hM := mid_ext (inn_mid HI.out) hE1 hlH
                  have z1' := (ext_cell hE1 _ _ lz).trans z1
                  have d6' := (ext_cell hE1 _ _ (World.block_lt_of_cell? _ _ d6)).trans d6
                  obtain ⟨w1, hw1⟩ : ∃ w1, w1 = wr.drewN nq := ⟨_, rfl⟩
                  rw [← hw1] at hM z1' d6' ⊢
                  have HM := Lib.hid hM
                  clear hw1 hM hE1 z1 d6 lz D5 D2a D3a D4a HI
                  have lz := World.block_lt_of_cell? _ _ z1'
                  have hgc := cell_grown
                  refine wp_region_mix [] [0, 1, 2, 3, 4, 5, 6, 7, 8, 9] [] [10] (by kernel_rfl) (by kernel_rfl) (fun _ _ d _ _ h => by cases d <;> exact h) ?_
                  refine wpPre_nil ?_
                  repeat (refine wpLoose_step rfl (fun K hK => ?_); (try simp only [Oper.quietAt, Oper.quietUpon]); go_simp; (refine hK _ ?_; clear hK K))
                  refine wpLoose_nil (wpFresh_nil (fun w3 hE3 _ => ?_))
                  have hM3 := mid_ext HM.out hE3 hlH
                  have z3 := (ext_cell hE3 _ _ lz).trans z1'
                  have lz3 := ext_lt hE3 lz
                  obtain ⟨cs3, hb3, _⟩ := hM3.rows.s
                  have f3 := block_frozen hb3 k
                  have HM3 := Lib.hid hM3
                  have hj3 := HP.out.le3
                  have hjl : (os.map (k + 1 + ·)).length = j := by rw [List.length_map, HP.out.len]
                  have r3 := hM3.ref.2.2.1
                  rw [hjl] at r3
                  have lr3 := World.block_lt_of_cell? _ _ r3
                  clear hE3 hM3 HM z1' d6' lz hgc hb3
                  refine wpSeq_of_list [10] [_] _ _ rfl ?_
                  go_wp2_with (at_builtin; refine halt_here ?_)
                  refine go_on ?_
                  obtain ⟨w4, hw4⟩ : ∃ w4, w4 = w3.setCell ⟨sb, k, none⟩ (.int .i64 ((sz : Int) + (st : Int))) := ⟨_, rfl⟩
                  have hM4 := mid_size HM3.out (.int .i64 ((sz : Int) + (st : Int))) hlH hbw ⟨hbr, hrp, hps⟩
                  have hz4 : w4.cell? ⟨sb, k, none⟩ = some (.int .i64 ((sz : Int) + (st : Int))) := by rw [hw4]; exact World.cell?_setCell_same _ _ _ z3
                  have HZ4 := Lib.hid (show w4.heap.size = w3.heap.size by rw [hw4]; exact size_setCell _ _ _)
                  rw [← hw4] at hM4 ⊢
                  have HM4 := Lib.hid hM4
                  have HC4 := Lib.hid hz4
                  obtain ⟨ks, hks⟩ : ∃ ks, ks = os.map (k + 1 + ·) := ⟨_, rfl⟩
                  rw [← hks] at hjl hM4 HM4
                  have HKS := Lib.hid hks
                  have HJL := Lib.hid hjl
                  have hrr := hM4.ref.2.2.2
                  rw [hjl] at hrr
                  have HRR := Lib.hid hrr
                  clear hw4 hM4 hz4 z3 lz3 f3 r3 lr3 HM3 hjl hks hrr
                  have hEa := ext_alloc (ext_refl w4) (.cells #[.int .i64 (q : Int)] 3)
                  refine wpList_append rfl (.tmp 106) (.tmp 108) rfl _ _ rfl rfl (fun v' w' => rowF elN H (ks ++ [q]) v' w' ∧ (w4.alloc (.cells #[.int .i64 (q : Int)] 3)).grownBy w' (Value.slice A j c).ownBlock) (append_onto tpN _ H (.slice A j c) _ ks [q] _ (rowF_ext _ _ _ hEa HRR.out) (srcOf_one (H := 0) ⟨w3.heap.size, rfl, Nat.zero_le _, by rw [← HZ4.out]; exact heap_alloc_new w4 _⟩) (by rw [HJL.out]; simp; omega) (Nat.le_trans HM4.out.hz (ext_size hEa))) ?_
                  rintro v5 w5 ⟨hr5, hg5⟩
                  obtain ⟨A5, c5, hv5⟩ := rowE_form hr5.1
                  rw [List.length_append, HJL.out] at hv5
                  simp only [List.length_cons, List.length_nil, Nat.zero_add] at hv5
                  subst hv5
                  have hM5 := mid_ref (mid_ext HM4.out hEa hlH) (w' := w5) (A' := A5) (c' := c5) (q := q) (by rw [HJL.out]; exact upd_grown hg5) (by rw [HJL.out]; exact hr5) hlH hbw ⟨hbr, hrp, hps⟩ hkn
                  have hMa := mid_ext HM4.out hEa hlH
                  have nrb : (Value.slice A j c).ownBlock ≠ some rb := fun e => by have := HRR.out.2 rb e; omega
                  obtain ⟨cr5, hcr5, hcs5⟩ := hMa.rows.r
                  have hb5 := ((upd_grown hg5).block rb (block_lt hcr5) nrb).trans hcr5
                  obtain ⟨u5, hu5⟩ : ∃ u, cr5[k * 3 + 2]? = some u := ⟨_, Array.getElem?_eq_getElem (by omega)⟩
                  have r5 := (block_cell hb5 (k * 3 + 2)).trans hu5
                  have lr5 := block_lt hb5
                  have f5 := block_frozen hb5 (k * 3 + 2)
                  have nsb : (Value.slice A j c).ownBlock ≠ some sb := fun e => by have := HRR.out.2 sb e; omega
                  have hz5 := (upd_cell (upd_grown hg5) (ext_lt hEa (World.block_lt_of_cell? _ _ HC4.out)) nsb k).trans ((ext_cell hEa _ _ (World.block_lt_of_cell? _ _ HC4.out)).trans HC4.out)
                  have hz5' : (w5.setCell ⟨rb, k * 3 + 2, none⟩ (.slice A5 (j + 1) c5)).cell? ⟨sb, k, none⟩ = some (.int .i64 ((sz : Int) + (st : Int))) := by
                    rw [World.cell?_setCell_other _ _ _ _ (fun e => by simp only [Addr.mk.injEq] at e; omega)]
                    exact hz5
                  rw [HJL.out] at hM5
                  have HM5 := Lib.hid hM5
                  have HZ5 := Lib.hid hz5'
                  clear hM5 hMa nrb hcr5 hcs5 hb5 hu5 nsb hz5 hz5' hr5 hg5 hEa HM4 HC4 HRR
                  go_wp2_with fail
                  obtain ⟨W, hW⟩ : ∃ W, W = w5.setCell ⟨rb, k * 3 + 2, none⟩ (.slice A5 (j + 1) c5) := ⟨_, rfl⟩
                  rw [← hW] at HM5 HZ5 ⊢
                  clear hW r5 lr5 f5
                  obtain ⟨p1, p2, p3, xv, p4, p5, p6⟩ := HM5.out.path
                  have htl : ts.length = j := HP.out.tlen
                  rw [htl] at p3 p4 p5
                  obtain ⟨d1, ⟨a7, b7, s7, d2, d3, d4, d5⟩, d6⟩ := HM5.out.done q t hq1 HTQ.out
                  obtain ⟨tk, tn, tA, tm, tc, rfl, rfl, rfl⟩ := TX_form d5
                  have nfp : ¬ (Value.slice B j d).ownBlock = some pb := fun e => by have := p5.2 pb e; omega
                  have q1 : ∀ pw : UW (fun b => (Value.slice B j d).ownBlock = some b) W, pw.val.cell? ⟨pb, k * 3 + 2, none⟩ = some (.slice B j d) := uw_cell p3 nfp
                  have q2 : ∀ pw : UW (fun b => (Value.slice B j d).ownBlock = some b) W, pw.val.cell? ⟨pb, q * 3, none⟩ = some (.int .i64 tk) := uw_cell d2 nfp
                  have q3 : ∀ pw : UW (fun b => (Value.slice B j d).ownBlock = some b) W, pw.val.cell? ⟨pb, q * 3 + 1, none⟩ = some (.int .i64 tn) := uw_cell d3 nfp
                  have q4 : ∀ pw : UW (fun b => (Value.slice B j d).ownBlock = some b) W, pw.val.cell? ⟨pb, q * 3 + 2, none⟩ = some (.slice tA tm tc) := uw_cell d4 nfp
                  have P4 := Lib.hid p4
                  have P5 := Lib.hid p5
                  have P6 := Lib.hid p6
                  have D5 := Lib.hid d5
                  have NFP := Lib.hid nfp
                  have HTL := Lib.hid htl
                  clear p1 p2 p3 p4 p5 p6 d1 d2 d3 d4 d5 d6 nfp htl
                  refine wp_region_fan (fp := fun b => (Value.slice B j d).ownBlock = some b) [] [0, 1, 2, 3, 4, 5, 6, 7, 8, 9] [(10, oneF elP W.heap.size (0, 0, (none, 0, 0)))] 11 (fun v w' => rowF elP H (xv ++ [(0, 0, (none, 0, 0))]) v w') [12, 13, 14, 15, 16] [10, 11] rfl (by kernel_rfl) (by kernel_rfl) (by kernel_rfl) (fun _ _ d _ _ h => by cases d <;> exact h) ?_
                  refine wpPre_nil ?_
                  repeat (refine wpU_step rfl (fun K hK => ?_); (try simp only [Oper.quietAt, Oper.quietUpon]); go_simp; (refine hK _ ?_; clear hK K))
                  refine wpU_nil ?_
                  refine wpGen_step rfl rfl oneF_ext (fun w6 hE6 hS6 => ?_) (fun v0 => ?_)
                  · simp only [runsAt]
                    go_simp
                    exact ⟨ext_alloc (ext_refl _) _, _, rfl, ext_size hE6, heap_alloc_new w6 _⟩
                  refine wpGen_nil ?_
                  refine ⟨⟨_, rfl, rfl, fun v a b hE hR => rowF_ext _ _ _ hE hR⟩, fun w6 hE6 hS6 o ho => ?_, fun o ho v w6 hU6 hR6 => ?_⟩
                  · cases ho
                    have hone : oneF elP W.heap.size (0, 0, (none, 0, 0)) v0 w6 := hS6 _ (List.mem_cons_self ..)
                    refine runs_append (sv := .slice B j d) (xv := v0) (.tmp 116) (.tmp 122) rfl rfl rfl ?_
                    obtain ⟨v', w', hrun, hr, hg, hat⟩ := append_at tpP 30 H (.slice B j d) v0 xv [(0, 0, (none, 0, 0))] w6 (rowF_ext _ _ _ hE6 P5.out) (srcOf_one hone) (by rw [P4.out]; simp; omega) (Nat.le_trans HM5.out.hz (ext_size hE6))
                    exact ⟨v', w', hrun, upd_grown hg, hr⟩
                  · cases ho
                    have hr6 : rowF elP H (xv ++ [(0, 0, (none, 0, 0))]) v w6 := hR6
                    obtain ⟨A6, c6, hv6⟩ := rowE_form hr6.1
                    have hl6 : (xv ++ [((0, 0, (none, 0, 0)) : PaV)]).length = j + 1 := by rw [List.length_append, P4.out]; rfl
                    rw [hl6] at hv6
                    subst hv6
                    obtain ⟨g6, hg6, lg6⟩ := rowE_some hr6.1 (by simp)
                    subst hg6
                    have hxj : (xv ++ [((0, 0, (none, 0, 0)) : PaV)])[j]? = some (0, 0, (none, 0, 0)) := by rw [List.getElem?_append_right (by rw [P4.out]; exact Nat.le_refl _), P4.out]; simp
                    have y0 : w6.cell? ⟨g6, j * 3, none⟩ = some (.int .i64 0) := rowE_cell hr6.1 hxj (j := 0) (u := .int .i64 0) rfl
                    have y1 : w6.cell? ⟨g6, j * 3 + 1, none⟩ = some (.int .i64 0) := rowE_cell hr6.1 hxj (j := 1) (u := .int .i64 0) rfl
                    have y2 : w6.cell? ⟨g6, j * 3 + 2, none⟩ = some (.slice none 0 0) := rowE_cell hr6.1 hxj (j := 2) (u := .slice none 0 0) rfl
                    obtain ⟨_, cur6, hb6⟩ := rowE_block hr6.1 (show (Value.slice (some ⟨g6, 0, none⟩) (j + 1) c6).ownBlock = some g6 from rfl)
                    have f0 := block_frozen hb6 (j * 3)
                    have f1 := block_frozen hb6 (j * 3 + 1)
                    have f2 := block_frozen hb6 (j * 3 + 2)
                    obtain ⟨cp6, hcp6, _⟩ := HM5.out.rows.p
                    have hpb6 := (hU6.block pb (block_lt hcp6) NFP.out).trans hcp6
                    have y3 : w6.cell? ⟨pb, k * 3 + 2, none⟩ = some (.slice B j d) := q1 ⟨w6, hU6⟩
                    have f3 := block_frozen hpb6 (k * 3 + 2)
                    have lp6 := block_lt hpb6
                    have hgH : H ≤ g6 := hr6.2 g6 rfl
                    have hsl' := HM5.out.rows.sl
                    have hgp : g6 ≠ pb := by omega
                    have HR6 := Lib.hid hr6
                    have HU6 := Lib.hid hU6
                    clear q1 q2 q3 q4 hr6 hU6 hR6 hxj hb6 hcp6 hpb6 hl6
                    have hjj : (j : Int) < (j : Int) + 1 := by omega
                    have hM7 := mid_path (y := (tk, tn, (tA, tm, tc))) (t := t) (k3 := j * 3) HM5.out (P4.out.trans HTL.out.symm) P6.out D5.out (by rw [HTL.out]; exact HU6.out) (by rw [HTL.out]; exact HR6.out) (by rw [HTL.out]) hlH hbw ⟨hbr, hrp, hps⟩ hkn
                    rw [HTL.out] at hM7
                    have nsb6 : ¬ (Value.slice B j d).ownBlock = some sb := fun e => by have := P5.out.2 sb e; omega
                    have hz6 := (upd_cell HU6.out (World.block_lt_of_cell? _ _ HZ5.out) nsb6 k).trans HZ5.out
                    have hgs : g6 ≠ sb := by omega
                    have IX := Lib.hid (show Inn w ((((w6.setCell ⟨g6, j * 3, none⟩ (.int .i64 tk)).setCell ⟨g6, j * 3 + 1, none⟩ (.int .i64 tn)).setCell ⟨g6, j * 3 + 2, none⟩ (.slice tA tm tc)).setCell ⟨pb, k * 3 + 2, none⟩ (.slice (some ⟨g6, 0, none⟩) (j + 1) c6)) bx rb pb sb n lo H k T x0 x1 xs (j + 1) (os ++ [y % 8]) (ts ++ [t]) A5 c5 (some ⟨g6, 0, none⟩) c6 from
                      ⟨picked_next HP.out HY.out HTR.out h3 (by rw [← HSZ.out, ← HST.out]; omega), hM7.done, hM7.rows, by rw [List.map_append, List.map_cons, List.map_nil, ← HKS.out, ← HQ.out]; exact hM7.ref, hM7.path, by
                        rw [World.cell?_setCell_other _ _ _ _ (fun e => by simp only [Addr.mk.injEq] at e; omega), World.cell?_setCell_other _ _ _ _ (fun e => by simp only [Addr.mk.injEq] at e; omega), World.cell?_setCell_other _ _ _ _ (fun e => by simp only [Addr.mk.injEq] at e; omega), World.cell?_setCell_other _ _ _ _ (fun e => by simp only [Addr.mk.injEq] at e; omega), hz6, sizeL_snoc, ← HST.out, HSZ.out]
                        congr 2
                        omega, hM7.hz, hM7.box, hM7.ext⟩)
                    have IY := Lib.hid (show Inn w ((((w6.setCell ⟨pb, k * 3 + 2, none⟩ (.slice (some ⟨g6, 0, none⟩) (j + 1) c6)).setCell ⟨g6, j * 3, none⟩ (.int .i64 tk)).setCell ⟨g6, j * 3 + 1, none⟩ (.int .i64 tn)).setCell ⟨g6, j * 3 + 2, none⟩ (.slice tA tm tc)) bx rb pb sb n lo H k T x0 x1 xs (j + 1) (os ++ [y % 8]) (ts ++ [t]) A5 c5 (some ⟨g6, 0, none⟩) c6 by
                      rw [setCell_swap _ _ _ hgp.symm, setCell_swap _ _ _ hgp.symm, setCell_swap _ _ _ hgp.symm]
                      exact IX.out)
                    clear hM7 nsb6 hz6
                    refine wpAny_two (i := 12) (j := 14) (by kernel_rfl) rfl rfl ?_ ?_
                    · go_wp2_with fail
                      refine wpAny_two (i := 13) (j := 14) (by kernel_rfl) rfl rfl ?_ ?_
                      · go_wp2_with fail
                        refine wpAny_one (i := 14) (by kernel_rfl) rfl ?_
                        go_wp2_with fail
                        refine wpAny_one (i := 15) (by kernel_rfl) rfl ?_
                        go_wp2_with fail
                        refine wpAny_one (i := 16) (by kernel_rfl) rfl ?_
                        go_wp2_with fail
                        refine wpAny_end (by kernel_rfl) ?_
                        go_wp2
                        go_roundw
                        case rel => exact ⟨j + 1, os ++ [y % 8], ts ++ [t], A5, c5, some ⟨g6, 0, none⟩, c6, by omega, by go_num, by first | exact IX.out | exact IY.out⟩
                        case measure => simp [intOf]; omega
                      · go_wp2_with fail
                        refine wpAny_two (i := 13) (j := 15) (by kernel_rfl) rfl rfl ?_ ?_
                        · go_wp2_with fail
                          refine wpAny_one (i := 15) (by kernel_rfl) rfl ?_
                          go_wp2_with fail
                          refine wpAny_one (i := 16) (by kernel_rfl) rfl ?_
                          go_wp2_with fail
                          refine wpAny_end (by kernel_rfl) ?_
                          go_wp2
                          go_roundw
                          case rel => exact ⟨j + 1, os ++ [y % 8], ts ++ [t], A5, c5, some ⟨g6, 0, none⟩, c6, by omega, by go_num, by first | exact IX.out | exact IY.out⟩
                          case measure => simp [intOf]; omega
                        · go_wp2_with fail
                          refine wpAny_two (i := 13) (j := 16) (by kernel_rfl) rfl rfl ?_ ?_
                          · go_wp2_with fail
                            refine wpAny_one (i := 16) (by kernel_rfl) rfl ?_
                            go_wp2_with fail
                            refine wpAny_end (by kernel_rfl) ?_
                            go_wp2
                            go_roundw
                            case rel => exact ⟨j + 1, os ++ [y % 8], ts ++ [t], A5, c5, some ⟨g6, 0, none⟩, c6, by omega, by go_num, by first | exact IX.out | exact IY.out⟩
                            case measure => simp [intOf]; omega
                          · go_wp2_with fail
                            refine wpAny_one (i := 13) (by kernel_rfl) rfl ?_
                            go_wp2_with fail
                            refine wpAny_end (by kernel_rfl) ?_
                            go_wp2
                            go_roundw
                            case rel => exact ⟨j + 1, os ++ [y % 8], ts ++ [t], A5, c5, some ⟨g6, 0, none⟩, c6, by omega, by go_num, by first | exact IX.out | exact IY.out⟩
                            case measure => simp [intOf]; omega
                    · go_wp2_with fail
                      refine wpAny_two (i := 12) (j := 15) (by kernel_rfl) rfl rfl ?_ ?_
                      · go_wp2_with fail
                        refine wpAny_two (i := 13) (j := 15) (by kernel_rfl) rfl rfl ?_ ?_
                        · go_wp2_with fail
                          refine wpAny_one (i := 15) (by kernel_rfl) rfl ?_
                          go_wp2_with fail
                          refine wpAny_one (i := 16) (by kernel_rfl) rfl ?_
                          go_wp2_with fail
                          refine wpAny_end (by kernel_rfl) ?_
                          go_wp2
                          go_roundw
                          case rel => exact ⟨j + 1, os ++ [y % 8], ts ++ [t], A5, c5, some ⟨g6, 0, none⟩, c6, by omega, by go_num, by first | exact IX.out | exact IY.out⟩
                          case measure => simp [intOf]; omega
                        · go_wp2_with fail
                          refine wpAny_two (i := 13) (j := 16) (by kernel_rfl) rfl rfl ?_ ?_
                          · go_wp2_with fail
                            refine wpAny_one (i := 16) (by kernel_rfl) rfl ?_
                            go_wp2_with fail
                            refine wpAny_end (by kernel_rfl) ?_
                            go_wp2
                            go_roundw
                            case rel => exact ⟨j + 1, os ++ [y % 8], ts ++ [t], A5, c5, some ⟨g6, 0, none⟩, c6, by omega, by go_num, by first | exact IX.out | exact IY.out⟩
                            case measure => simp [intOf]; omega
                          · go_wp2_with fail
                            refine wpAny_one (i := 13) (by kernel_rfl) rfl ?_
                            go_wp2_with fail
                            refine wpAny_end (by kernel_rfl) ?_
                            go_wp2
                            go_roundw
                            case rel => exact ⟨j + 1, os ++ [y % 8], ts ++ [t], A5, c5, some ⟨g6, 0, none⟩, c6, by omega, by go_num, by first | exact IX.out | exact IY.out⟩
                            case measure => simp [intOf]; omega
                      · go_wp2_with fail
                        refine wpAny_two (i := 12) (j := 16) (by kernel_rfl) rfl rfl ?_ ?_
                        · go_wp2_with fail
                          refine wpAny_two (i := 13) (j := 16) (by kernel_rfl) rfl rfl ?_ ?_
                          · go_wp2_with fail
                            refine wpAny_one (i := 16) (by kernel_rfl) rfl ?_
                            go_wp2_with fail
                            refine wpAny_end (by kernel_rfl) ?_
                            go_wp2
                            go_roundw
                            case rel => exact ⟨j + 1, os ++ [y % 8], ts ++ [t], A5, c5, some ⟨g6, 0, none⟩, c6, by omega, by go_num, by first | exact IX.out | exact IY.out⟩
                            case measure => simp [intOf]; omega
                          · go_wp2_with fail
                            refine wpAny_one (i := 13) (by kernel_rfl) rfl ?_
                            go_wp2_with fail
                            refine wpAny_end (by kernel_rfl) ?_
                            go_wp2
                            go_roundw
                            case rel => exact ⟨j + 1, os ++ [y % 8], ts ++ [t], A5, c5, some ⟨g6, 0, none⟩, c6, by omega, by go_num, by first | exact IX.out | exact IY.out⟩
                            case measure => simp [intOf]; omega
                        · go_wp2_with fail
                          refine wpAny_one (i := 12) (by kernel_rfl) rfl ?_
                          go_wp2_with fail
                          refine wpAny_one (i := 13) (by kernel_rfl) rfl ?_
                          go_wp2_with fail
                          refine wpAny_end (by kernel_rfl) ?_
                          go_wp2
                          go_roundw
                          case rel => exact ⟨j + 1, os ++ [y % 8], ts ++ [t], A5, c5, some ⟨g6, 0, none⟩, c6, by omega, by go_num, by first | exact IX.out | exact IY.out⟩
                          case measure => simp [intOf]; omega
          · obtain rfl : j = xs.length := by omega
            go_wp2
            go_roundw
            case rel => exact ⟨k, wr.heap.size, by omega, by go_num, finish_node HI.out HT.out HX.out (picked_end HI.out.picked (.inl rfl)) hkn hlH, HI.out.rows, by have := HI.out.hz; omega, Nat.le_refl _, HI.out.box, HI.out.ext⟩
            case measure => simp [intOf]
end Go.Proofs.Ytiabmdboacpmcaa
/- Tree of no nodes. -/
namespace Go.Proofs.Ytiabmdboacpmcaa
open Go Go.RowKit Go.Sort
set_option maxHeartbeats 2000000

set_option maxRecDepth 100000 in
theorem tree_none (A0 : Option Addr) (c0 : Nat) (w : World) : Calls Try.prog 20 #[.slice A0 0 c0] w (TreePost [] w) := by
  obtain ⟨cr, hcr, mr⟩ := make_refs 1 (by omega)
  obtain ⟨cp, hcp, mp⟩ := make_paths 1 (by omega)
  obtain ⟨cs, hcs, ms⟩ := make_ints 1 (by omega)
  rw [show ((1 : Nat) : Int) = 1 from rfl] at mr mp ms
  go_enter Try.func20, Try.ntmps20
  go_wp2_with fail
  obtain ⟨wa, hwa⟩ : ∃ wa, wa = w.alloc (.cells #[.int .i64 0, .int .i64 0, .slice none 0 0] 30) := ⟨_, rfl⟩
  have hza : wa.heap.size = w.heap.size + 1 := by rw [hwa]; simp
  have ha := heap_alloc_new w (.cells #[.int .i64 0, .int .i64 0, .slice none 0 0] 30)
  have hEa := ext_alloc (ext_refl w) (.cells #[.int .i64 0, .int .i64 0, .slice none 0 0] 30)
  rw [← hwa] at ha hEa ⊢
  obtain ⟨wb, hwb⟩ : ∃ wb, wb = wa.alloc (.cells #[.int .i64 0, .int .i64 0, .slice none 0 0] 26) := ⟨_, rfl⟩
  have hzb : wb.heap.size = w.heap.size + 1 + 1 := by rw [hwb]; simp; omega
  have hb := heap_alloc_new wa (.cells #[.int .i64 0, .int .i64 0, .slice none 0 0] 26)
  have hEb := ext_alloc (ext_refl wa) (.cells #[.int .i64 0, .int .i64 0, .slice none 0 0] 26)
  rw [← hwb] at hb hEb ⊢
  obtain ⟨wc, hwc⟩ : ∃ wc, wc = wb.alloc (.cells cr 102) := ⟨_, rfl⟩
  have hzc : wc.heap.size = w.heap.size + 1 + 1 + 1 := by rw [hwc]; simp; omega
  have hc := heap_alloc_new wb (.cells cr 102)
  have hEc := ext_alloc (ext_refl wb) (.cells cr 102)
  rw [← hwc] at hc hEc ⊢
  obtain ⟨wd, hwd⟩ : ∃ wd, wd = wc.alloc (.cells cp 30) := ⟨_, rfl⟩
  have hzd : wd.heap.size = w.heap.size + 1 + 1 + 1 + 1 := by rw [hwd]; simp; omega
  have hd := heap_alloc_new wc (.cells cp 30)
  have hEd := ext_alloc (ext_refl wc) (.cells cp 30)
  rw [← hwd] at hd hEd ⊢
  obtain ⟨we, hwe⟩ : ∃ we, we = wd.alloc (.cells cs 3) := ⟨_, rfl⟩
  have hze : we.heap.size = w.heap.size + 1 + 1 + 1 + 1 + 1 := by rw [hwe]; simp; omega
  have he := heap_alloc_new wd (.cells cs 3)
  have hEe := ext_alloc (ext_refl wd) (.cells cs 3)
  rw [← hwe] at he hEe ⊢
  rw [hza] at hb
  rw [hzb] at hc
  rw [hzc] at hd
  rw [hzd] at he
  have ha' := (ext_block (ext_trans hEb (ext_trans hEc (ext_trans hEd hEe))) (block_lt ha)).trans ha
  have hb' := (ext_block (ext_trans hEc (ext_trans hEd hEe)) (block_lt hb)).trans hb
  have hc' := (ext_block (ext_trans hEd hEe) (block_lt hc)).trans hc
  have hd' := (ext_block hEe (block_lt hd)).trans hd
  have hEw := ext_trans hEa (ext_trans hEb (ext_trans hEc (ext_trans hEd hEe)))
  obtain ⟨bx, hbx⟩ : ∃ bx, bx = w.heap.size := ⟨_, rfl⟩
  obtain ⟨nb, hnb⟩ : ∃ nb, nb = w.heap.size + 1 := ⟨_, rfl⟩
  obtain ⟨rb, hrb⟩ : ∃ rb, rb = w.heap.size + 1 + 1 := ⟨_, rfl⟩
  obtain ⟨pb, hpb⟩ : ∃ pb, pb = w.heap.size + 1 + 1 + 1 := ⟨_, rfl⟩
  obtain ⟨sb, hsb⟩ : ∃ sb, sb = w.heap.size + 1 + 1 + 1 + 1 := ⟨_, rfl⟩
  obtain ⟨lo, hlo⟩ : ∃ lo, lo = we.heap.size := ⟨_, rfl⟩
  have hbw : w.heap.size ≤ bx := by omega
  have o1 : bx < nb := by omega
  have o2 : nb < rb := by omega
  have o3 : rb < pb := by omega
  have o4 : pb < sb := by omega
  have o5 : sb < lo := by omega
  have o6 : lo ≤ we.heap.size := by omega
  rw [← hsb] at he
  rw [← hpb] at hd'
  rw [← hrb] at hc'
  rw [← hnb] at hb'
  rw [← hbx] at ha'
  have R0 := Lib.hid (show Rows3 we rb pb sb 1 lo from ⟨⟨cr, hc', by omega⟩, ⟨cp, hd', by omega⟩, ⟨cs, he, hcs⟩, by omega, by omega, by omega, by omega, by omega, by omega⟩)
  have A0' := Lib.hid ha'
  have B0 := Lib.hid hb'
  have E0 := Lib.hid hEw
  rw [← hsb, ← hpb, ← hrb, ← hnb, ← hbx]
  clear hwa hza ha hEa hwb hzb hb hEb hwc hzc hc hEc hwd hzd hd hEd hwe hze he hEe ha' hb' hc' hd' hEw hbx hnb hrb hpb hsb hlo hcr mr hcp mp hcs ms cr cp cs
  go_loopw [7] (fun x wr => (x = .int .i64 0 ∧ wr = we) ∨ (x = .int .i64 (-1) ∧ RefRow wr rb lo 0 0 0 [] none 0 ∧ PathRow wr pb lo lo 0 0 0 [] none 0 ∧ lo ≤ wr.heap.size ∧ (∃ a b s, wr.heap[bx]? = some (.cells #[a, b, s] 30 (0, 0))) ∧ Ext w wr)) (fun x _ => (intOf x + 1).toNat)
  case atStart => exact .inl ⟨rfl, rfl⟩
  case round =>
    rename World => wo
    rcases hrel with ⟨rfl, hwo⟩ | ⟨rfl, hr, hp, hz, hbo, hE⟩
    · rw [← hwo] at R0 A0' B0 E0 o6
      clear hwo
      obtain ⟨⟨cr, r1, r2⟩, ⟨cp, p1, p2⟩, ⟨cs, s1, s2⟩, -, -, -, -, -, -⟩ := R0.out
      have q0 := block_cell B0.out 0
      have q1 := block_cell B0.out 1
      have q2 := block_cell B0.out 2
      simp at q0 q1 q2
      have lb := block_lt B0.out
      have lr := block_lt r1
      have lp := block_lt p1
      have ls := block_lt s1
      obtain ⟨u0, hu0⟩ : ∃ u, cr[0]? = some u := ⟨_, Array.getElem?_eq_getElem (by omega)⟩
      obtain ⟨u1, hu1⟩ : ∃ u, cr[1]? = some u := ⟨_, Array.getElem?_eq_getElem (by omega)⟩
      obtain ⟨u2, hu2⟩ : ∃ u, cr[2]? = some u := ⟨_, Array.getElem?_eq_getElem (by omega)⟩
      obtain ⟨v0, hv0⟩ : ∃ u, cp[0]? = some u := ⟨_, Array.getElem?_eq_getElem (by omega)⟩
      obtain ⟨v1, hv1⟩ : ∃ u, cp[1]? = some u := ⟨_, Array.getElem?_eq_getElem (by omega)⟩
      obtain ⟨v2, hv2⟩ : ∃ u, cp[2]? = some u := ⟨_, Array.getElem?_eq_getElem (by omega)⟩
      obtain ⟨z0, hz0⟩ : ∃ u, cs[0]? = some u := ⟨_, Array.getElem?_eq_getElem (by omega)⟩
      have e0 := (block_cell r1 0).trans hu0
      have e1 := (block_cell r1 1).trans hu1
      have e2 := (block_cell r1 2).trans hu2
      have e3 := (block_cell p1 0).trans hv0
      have e4 := (block_cell p1 1).trans hv1
      have e5 := (block_cell p1 2).trans hv2
      have e6 := (block_cell s1 0).trans hz0
      have f0 := block_frozen r1 0
      have f1 := block_frozen r1 1
      have f2 := block_frozen r1 2
      have f3 := block_frozen p1 0
      have f4 := block_frozen p1 1
      have f5 := block_frozen p1 2
      have f6 := block_frozen s1 0
      clear r1 r2 p1 p2 s1 s2 hu0 hu1 hu2 hv0 hv1 hv2 hz0
      have hnr : rb ≠ pb := by omega
      have hns : rb ≠ sb := by omega
      have hnp : pb ≠ sb := by omega
      go_wp2_with fail
      obtain ⟨w2, hw2⟩ : ∃ w2, w2 = ((((((((wo.setCell ⟨sb, 0, none⟩ (.int .i64 1)).setCell ⟨rb, 0, none⟩ (.int .i64 0)).setCell ⟨rb, 1, none⟩ (.int .i64 0)).setCell ⟨rb, 2, none⟩ (.slice none 0 0)).setCell ⟨pb, 0, none⟩ (.int .i64 0)).setCell ⟨pb, 1, none⟩ (.int .i64 0)).setCell ⟨pb, 2, none⟩ (.slice none 0 0)).alloc (.cells #[.int .i64 0, .int .i64 0, .slice none 0 0] 26)) := ⟨_, rfl⟩
      obtain ⟨g1, g2, g3, g4, g5, g6, g7⟩ := start_node (k := 0) (T := [.node 0 0 []]) (x0 := 0) (x1 := 0) (A9 := none) (n9 := 0) (c9 := 0) (H := lo) (w := w) (bx := bx) hw2 (fun k t hk ht => by
        have := (List.getElem?_eq_some_iff.1 ht).1
        simp at this
        omega) R0.out (Nat.le_refl _) o6 E0.out hbw (by omega) (by omega) ⟨_, _, _, A0'.out⟩ (by omega)
      rw [← hw2]
      have G3 := Lib.hid g3
      have G4 := Lib.hid g4
      have G6 := Lib.hid g6
      have G7 := Lib.hid g7
      clear g1 g2 g3 g4 g5 g6 g7 hw2 e0 e1 e2 e3 e4 e5 e6 f0 f1 f2 f3 f4 f5 f6 q0 q1 q2 lr lp ls lb
      go_loopw [59] (fun x wr => x = .int .i64 0 ∧ wr = w2) (fun _ _ => 0)
      case atStart => exact ⟨rfl, rfl⟩
      case round =>
        obtain ⟨rfl, rfl⟩ := hrel
        go_wp2
        go_roundw
        case rel => exact .inr ⟨rfl, G3.out, G4.out, G7.out.2, G7.out.1, G6.out⟩
        case measure => simp [intOf]
    · obtain ⟨r1, r2, r3, -⟩ := hr
      obtain ⟨p1, p2, p3, -⟩ := hp
      simp only [Nat.zero_mul, Nat.zero_add, List.length_nil] at r1 r2 r3 p1 p2 p3
      have lp := World.block_lt_of_cell? _ _ p1
      have R1 := Lib.hid r1
      have R2 := Lib.hid r2
      have R3 := Lib.hid r3
      have HBX := Lib.hid hbo
      have HE := Lib.hid hE
      have hgc := cell_grown
      clear r1 r2 r3 hbo hE
      go_wp2_with fail
      refine wp_region_mix [] [0, 1, 2, 3, 4] [] [5] (by kernel_rfl) (by kernel_rfl) (fun _ _ d _ _ h => by cases d <;> exact h) ?_
      refine wpPre_nil ?_
      repeat (refine wpLoose_step rfl (fun K hK => ?_); (try simp only [Oper.quietAt, Oper.quietUpon]); go_simp; (refine hK _ ?_; clear hK K))
      refine wpLoose_nil (wpFresh_nil (fun w3 hE3 _ => ?_))
      obtain ⟨b0, b1, b2, hb⟩ := HBX.out
      have hb3 := (ext_block hE3 (block_lt hb)).trans hb
      have y0 := block_cell hb3 0
      have y1 := block_cell hb3 1
      have y2 := block_cell hb3 2
      have f0 := block_frozen hb3 0
      have f1 := block_frozen hb3 1
      have f2 := block_frozen hb3 2
      simp at y0 y1 y2
      have lb3 := block_lt hb3
      have HE3 := Lib.hid hE3
      have HB3 := Lib.hid hb3
      clear hE3 hb hb3 hgc p1 p2 p3 lp
      refine wpSeq_of_list [5] [_] _ _ rfl ?_
      go_wp2
      obtain ⟨wF, hwF⟩ : ∃ wF, wF = ((w3.setCell ⟨bx, 0, none⟩ (.int .i64 0)).setCell ⟨bx, 1, none⟩ (.int .i64 0)).setCell ⟨bx, 2, none⟩ (.slice none 0 0) := ⟨_, rfl⟩
      have hbF : wF.heap[bx]? = some (.cells #[.int .i64 0, .int .i64 0, .slice none 0 0] 30 (0, 0)) := by
        rw [hwF, heap_setCell_at (heap_setCell_at (heap_setCell_at HB3.out))]
        rfl
      have huF : Upd (fun b => b = bx) w3 wF := by
        rw [hwF]
        exact upd_trans (upd_trans (upd_setCell (a := ⟨bx, 0, none⟩) _) (upd_setCell (a := ⟨bx, 1, none⟩) _) (fun _ _ h => h)) (upd_setCell (a := ⟨bx, 2, none⟩) _) (fun _ _ h => h)
      have hua : Upd (fun b => b = bx) wo wF := upd_trans (upd_of_ext (fp := fun b => b = bx) HE3.out) huF (fun _ _ h => h)
      rw [← hwF]
      clear hwF y0 y1 y2 f0 f1 f2 lb3
      have c0 := block_cell hbF 0
      have c1 := block_cell hbF 1
      have c2 := block_cell hbF 2
      simp at c0 c1 c2
      refine bodyPost_ret (v := .tuple #[.slice (some ⟨rb, 0, none⟩) 1 1, .agg #[.int .i64 0, .int .i64 0, .slice none 0 0]]) (by simp [results, Try.results20, go_sem, c0, c1, c2]) rfl ?_
      have hsz := hua.size
      have hrl : rb < wo.heap.size := World.block_lt_of_cell? _ _ R1.out
      have hnb : ¬ (rb = bx) := by omega
      refine ⟨rb, 1, lo, lo, .node 0 0 [], _, _, _, rfl, rfl, rfl, ?_, ?_, by omega, Nat.le_refl _, by omega, ?_⟩
      · rw [TR]
        exact ⟨by omega, (upd_cell hua hrl hnb _).trans R1.out, (upd_cell hua hrl hnb _).trans R2.out, none, 0, (upd_cell hua hrl hnb _).trans R3.out, Nat.le_refl _, fun h => absurd rfl h⟩
      · rw [TX]
        exact ⟨rfl, rfl, none, 0, rfl, fun h => absurd rfl h⟩
      · exact ext_of_upd (upd_trans (upd_of_ext (fp := fun _ => False) HE.out) hua (fun i hi e => by omega))
theorem tree_any (v : Value) (L : List Nd) (w : World) (hv : RdNd w v L) (hL : L.length ≤ 60) : Calls Try.prog 20 #[v] w (TreePost L w) := by
  cases L with
  | nil =>
    obtain ⟨A, c, rfl, _⟩ := hv
    exact tree_none A c w
  | cons x r => exact tree_some v _ w hv hL (by simp)
end Go.Proofs.Ytiabmdboacpmcaa
/- The document's Check. -/
namespace Go.Proofs.Ytiabmdboacpmcaa
open Go Go.RowKit Go.Sort
set_option maxHeartbeats 800000

mutual
def depthT : Tr → Nat
  | .node _ _ ps => 1 + depthL ps
def depthL : List Tr → Nat
  | [] => 0
  | p :: r => max (depthT p) (depthL r)
end
mutual
theorem deep_depth : ∀ (t : Tr) (l : Nat), deepB t (l : Int) = decide (depthT t ≤ l)
  | .node k n ps, l => by
    rw [deepB, depthT]
    cases l with
    | zero => simp
    | succ l =>
      rw [show ((l + 1 : Nat) : Int) - 1 = (l : Int) by omega, deepL_depth ps l]
      rw [Bool.eq_iff_iff]
      simp
      omega
theorem deepL_depth : ∀ (ps : List Tr) (l : Nat), deepL ps (l : Int) = decide (depthL ps ≤ l)
  | [], l => by simp [deepL, depthL]
  | p :: r, l => by
    rw [deepL, depthL, deep_depth p l, deepL_depth r l]
    rw [Bool.eq_iff_iff]
    simp
    omega
end
mutual
theorem depth_size : ∀ (t : Tr), depthT t ≤ sizeT t
  | .node k n ps => by rw [depthT, sizeT]; have := depthL_size ps; omega
theorem depthL_size : ∀ (ps : List Tr), depthL ps ≤ sizeL ps
  | [] => by simp [depthL]
  | p :: r => by rw [depthL, sizeL]; have := depth_size p; have := depthL_size r; omega
end
theorem depthL_take {ps : List Tr} {j : Nat} {q : Tr} (h : ps[j]? = some q) : depthL (ps.take (j + 1)) = max (depthL (ps.take j)) (depthT q) := by
  induction ps generalizing j with
  | nil => simp at h
  | cons p r ih =>
    cases j with
    | zero =>
      simp only [List.getElem?_cons_zero, Option.some.injEq] at h
      subst h
      simp [depthL]
    | succ j =>
      have := ih (j := j) (by simpa using h)
      rw [List.take_succ_cons, depthL, this, List.take_succ_cons, depthL]
      omega

/-- a document's path at a place of its list -/
def Lst (w : World) (rb n : Nat) (t : Tr) (x : Nat) : Prop := ∃ lo H, H ≤ w.heap.size ∧ TR w rb n lo H t x
theorem lst_ext {w w' : World} {rb n x : Nat} {t : Tr} (h : Lst w rb n t x) (hE : Ext w w') : Lst w' rb n t x := by
  obtain ⟨lo, H, hH, hT⟩ := h
  have hrb : rb < w.heap.size := by
    cases t with
    | node k m ps =>
      rw [TR] at hT
      exact World.block_lt_of_cell? _ _ hT.2.1
  exact ⟨lo, H, Nat.le_trans hH (ext_size hE), TR_same (i := 0) (fun g o _ hg => ext_cell hE _ _ (by omega)) (fun o _ => ext_cell hE _ _ hrb) (Nat.le_refl _) t x (Nat.zero_le _) hT⟩
theorem lst_node {w : World} {rb n x : Nat} {k m : Int} {ps : List Tr} (h : Lst w rb n (.node k m ps) x) : x < n ∧ rb < w.heap.size ∧ w.cell? ⟨rb, x * 3, none⟩ = some (.int .i64 k) ∧ w.cell? ⟨rb, x * 3 + 1, none⟩ = some (.int .i64 m) ∧ ∃ A c, w.cell? ⟨rb, x * 3 + 2, none⟩ = some (.slice A ps.length c) ∧ ps.length ≤ c ∧ ∀ (j : Nat) (q : Tr), ps[j]? = some q → ∃ (g y : Nat), A = some ⟨g, 0, none⟩ ∧ g < w.heap.size ∧ w.cell? ⟨g, j, none⟩ = some (.int .i64 (y : Int)) ∧ y < n ∧ Lst w rb n q y := by
  obtain ⟨lo, H, hH, hT⟩ := h
  rw [TR] at hT
  obtain ⟨h0, h1, h2, A, c, h3, hc, h4⟩ := hT
  refine ⟨h0, World.block_lt_of_cell? _ _ h1, h1, h2, A, c, h3, hc, fun j q hq => ?_⟩
  obtain ⟨g, h5, _, h7, h8⟩ := h4 (fun e => by rw [e] at hq; simp at hq)
  obtain ⟨y, _, h10, h11⟩ := LR_at h8 hq
  rw [Nat.zero_add] at h10
  refine ⟨g, y, h5, by omega, h10, ?_, lo, H, hH, h11⟩
  cases q with
  | node k' m' qs => rw [TR] at h11; exact h11.1

def RSizeAt (N : Nat) : Prop := ∀ (t : Tr) (rb n x : Nat) (w : World), sizeT t ≤ N → n ≤ 100 → Lst w rb n t x → Calls Try.prog 56 #[.slice (some ⟨rb, 0, none⟩) n n, .int .i64 (x : Int)] w fun e w' => e = .returned (.int .i64 (sizeT t)) ∧ Ext w w'
theorem rsize_step {N : Nat} (hd : RSizeAt N) (hN1 : N ≤ 100000) : RSizeAt (N + 1) := by
  intro t rb n x w hN hn hl
  cases t with
  | node k m ps =>
    rw [sizeT] at hN ⊢
    have hlen := sizeL_len ps
    have HD := Lib.hid hd
    have HL := Lib.hid hl
    obtain ⟨hx, lrb, -, -, A, c, h3, hc, -⟩ := lst_node hl
    have hxi : (x : Int) < (n : Int) := by omega
    have hx0 : (0 : Int) ≤ (x : Int) := by omega
    have q3 := h3
    have H3 := Lib.hid h3
    clear hd hl h3
    go_enter Try.func56, Try.ntmps56
    go_wp2
    go_loopw [13, 5] (fun x y wr => ∃ j : Nat, j ≤ ps.length ∧ x = .int .i64 j ∧ y = .int .i64 ((1 + sizeL (ps.take j) : Nat) : Int) ∧ Ext w wr) (fun x _ _ => ps.length - (intOf x).toNat)
    case atStart => exact ⟨0, Nat.zero_le _, rfl, by simp [sizeL], ext_refl _⟩
    case round =>
      rename World => wo
      obtain ⟨j, hj, rfl, rfl, hE⟩ := hrel
      have HE := Lib.hid hE
      clear hE q3 lrb
      by_cases hlt : j < ps.length
      · have hji : (j : Int) < (ps.length : Int) := by omega
        have hj0 : (0 : Int) ≤ (j : Int) := by omega
        obtain ⟨q, hq⟩ : ∃ q, ps[j]? = some q := ⟨_, List.getElem?_eq_getElem hlt⟩
        have hst := sizeL_take hq
        have hle := sizeL_le_take ps (j + 1)
        have HST := Lib.hid hst
        obtain ⟨m', hm⟩ : ∃ m', m' = 1 + sizeL (ps.take j) := ⟨_, rfl⟩
        have hm1 : m' + sizeT q ≤ N + 1 := by omega
        have hm0 : 1 ≤ m' := by omega
        rw [← hm]
        have HM := Lib.hid hm
        obtain ⟨_, lrb, -, -, A', c', h3, hc', hch⟩ := lst_node (lst_ext HL.out HE.out)
        have h3' := (ext_cell HE.out _ _ (World.block_lt_of_cell? _ _ H3.out)).trans H3.out
        rw [h3] at h3'
        simp only [Option.some.injEq, Value.slice.injEq] at h3'
        obtain ⟨rfl, -, rfl⟩ := h3'
        obtain ⟨g, y, hA, lg, hgy, hyn, hly⟩ := hch j q hq
        subst hA
        have HLY := Lib.hid hly
        clear hq hst hm hle hch hly
        go_wp2_with fail
        refine (HD.out q rb n y _ (by omega) hn HLY.out).mono ?_
        rintro e w1 ⟨rfl, hE1⟩
        have HE1 := Lib.hid (ext_trans HE.out hE1)
        clear hE1 h3 lrb hgy lg
        go_wp2
        go_roundw
        case rel => exact ⟨j + 1, by omega, by go_num, by rw [HST.out, HM.out]; congr 1; push_cast; omega, HE1.out⟩
        case measure => simp [intOf]; omega
      · obtain rfl : j = ps.length := by omega
        rw [List.take_length]
        go_wp2
        refine bodyPost_ret (results_tmp rfl _ _ _) rfl ?_
        exact ⟨rfl, HE.out⟩
theorem rsize_all : ∀ N : Nat, N ≤ 100000 → RSizeAt N
  | 0, _ => fun t rb n x w hN => by have := sizeT_pos t; omega
  | N + 1, h => rsize_step (rsize_all N (by omega)) (by omega)

theorem depthL_le_take (ps : List Tr) (j : Nat) : depthL (ps.take j) ≤ sizeL ps := Nat.le_trans (depthL_size _) (sizeL_le_take ps j)
def RDepthAt (N : Nat) : Prop := ∀ (t : Tr) (rb n x : Nat) (w : World), sizeT t ≤ N → n ≤ 100 → Lst w rb n t x → Calls Try.prog 55 #[.slice (some ⟨rb, 0, none⟩) n n, .int .i64 (x : Int)] w fun e w' => e = .returned (.int .i64 (depthT t)) ∧ Ext w w'
theorem rdepth_step {N : Nat} (hd : RDepthAt N) (hN1 : N ≤ 100000) : RDepthAt (N + 1) := by
  intro t rb n x w hN hn hl
  cases t with
  | node k m ps =>
    rw [sizeT] at hN
    rw [depthT]
    have hlen := sizeL_len ps
    have HD := Lib.hid hd
    have HL := Lib.hid hl
    obtain ⟨hx, lrb, -, -, A, c, h3, hc, -⟩ := lst_node hl
    have hxi : (x : Int) < (n : Int) := by omega
    have hx0 : (0 : Int) ≤ (x : Int) := by omega
    have q3 := h3
    have H3 := Lib.hid h3
    clear hd hl h3
    go_enter Try.func55, Try.ntmps55
    go_wp2
    go_loopw [14, 5] (fun x y wr => ∃ j : Nat, j ≤ ps.length ∧ x = .int .i64 j ∧ y = .int .i64 ((1 + depthL (ps.take j) : Nat) : Int) ∧ Ext w wr) (fun x _ _ => ps.length - (intOf x).toNat)
    case atStart => exact ⟨0, Nat.zero_le _, rfl, by simp [depthL], ext_refl _⟩
    case round =>
      rename World => wo
      obtain ⟨j, hj, rfl, rfl, hE⟩ := hrel
      have HE := Lib.hid hE
      clear hE q3 lrb
      by_cases hlt : j < ps.length
      · have hji : (j : Int) < (ps.length : Int) := by omega
        have hj0 : (0 : Int) ≤ (j : Int) := by omega
        obtain ⟨q, hq⟩ : ∃ q, ps[j]? = some q := ⟨_, List.getElem?_eq_getElem hlt⟩
        have hst := depthL_take hq
        have hle := depthL_le_take ps j
        have hqs := sizeL_mem (List.mem_of_getElem? hq)
        have hqd := depth_size q
        have HST := Lib.hid hst
        obtain ⟨dj, hdj⟩ : ∃ dj, dj = depthL (ps.take j) := ⟨_, rfl⟩
        obtain ⟨dq, hdq⟩ : ∃ dq, dq = depthT q := ⟨_, rfl⟩
        rw [← hdj] at hle
        rw [← hdq] at hqd
        rw [← hdj]
        have HDJ := Lib.hid hdj
        have HDQ := Lib.hid hdq
        obtain ⟨_, lrb, -, -, A', c', h3, hc', hch⟩ := lst_node (lst_ext HL.out HE.out)
        have h3' := (ext_cell HE.out _ _ (World.block_lt_of_cell? _ _ H3.out)).trans H3.out
        rw [h3] at h3'
        simp only [Option.some.injEq, Value.slice.injEq] at h3'
        obtain ⟨rfl, -, rfl⟩ := h3'
        obtain ⟨g, y, hA, lg, hgy, hyn, hly⟩ := hch j q hq
        subst hA
        have HLY := Lib.hid hly
        clear hq hst hdj hdq hch hly
        go_wp2_with fail
        refine (HD.out q rb n y _ (by omega) hn HLY.out).mono ?_
        rintro e w1 ⟨rfl, hE1⟩
        rw [← HDQ.out]
        have HE1 := Lib.hid (ext_trans HE.out hE1)
        clear hE1 h3 lrb hgy lg
        by_cases hgt : dj < dq
        · have hgi : (1 + (dj : Int)) < 1 + (dq : Int) := by omega
          go_wp2
          go_roundw
          case rel => exact ⟨j + 1, by omega, by go_num, by rw [HST.out, ← HDJ.out, ← HDQ.out]; congr 1; push_cast; omega, HE1.out⟩
          case measure => simp [intOf]; omega
        · have hgi : ¬ (1 + (dj : Int)) < 1 + (dq : Int) := by omega
          go_wp2
          go_roundw
          case rel => exact ⟨j + 1, by omega, by go_num, by rw [HST.out, ← HDJ.out, ← HDQ.out]; congr 1; push_cast; omega, HE1.out⟩
          case measure => simp [intOf]; omega
      · obtain rfl : j = ps.length := by omega
        rw [List.take_length]
        go_wp2
        refine bodyPost_ret (results_tmp rfl _ _ _) rfl ?_
        exact ⟨rfl, HE.out⟩
theorem rdepth_all : ∀ N : Nat, N ≤ 100000 → RDepthAt N
  | 0, _ => fun t rb n x w hN => by have := sizeT_pos t; omega
  | N + 1, h => rdepth_step (rdepth_all N (by omega)) (by omega)
end Go.Proofs.Ytiabmdboacpmcaa
