/- A row put behind a table's rows. -/
import Derived.Test.YtniggdaakiofeaaDoorSe
namespace Go.Proofs.YtniggdaakiofeaaDoor
open Go Go.RowKit Go.Sort
set_option maxHeartbeats 4000000

set_option maxRecDepth 100000 in
theorem make_row (m : Nat) (hm : m ≤ 1000000) : ∃ cs0 : Array Value, cs0.size = m ∧ ∀ w : World, Sem.run Tryd.prog (Instr.makeSlice 41 (.int .i64 0) (.int .i64 (m : Int))) w = .ok (.slice (some ⟨w.heap.size, 0, none⟩) 0 m) (w.alloc (.cells cs0 3)) := by
  have hi : (Tryd.prog.info? 3) = some ((Tryd.prog.info? 3).get (by kernel_rfl)) := (Option.some_get _).symm
  have hsz : ((Tryd.prog.info? 3).get (by kernel_rfl)).size = 1 := by kernel_rfl
  have hz : ((Tryd.prog.info? 3).get (by kernel_rfl)).zero = some (.int .i64 0) := by kernel_rfl
  have hby : ((Tryd.prog.info? 3).get (by kernel_rfl)).bytes = 8 := by kernel_rfl
  refine ⟨madeCells (Value.int .i64 0).cells (m * 1), by simp [madeCells], fun w => ?_⟩
  have h := run_makeSlice (P := Tryd.prog) w 41 3 _ (.int .i64 0) Tryd.underlying41 hi hz .i64 .i64 (0 : Int) (m : Int) (by omega) (by omega) (by rw [hsz]; simp; omega) (by rw [hby]; omega) (by omega)
  rw [hsz, Int.toNat_natCast] at h
  exact h
theorem made_row {w : World} {m : Nat} {cs0 : Array Value} (h : cs0.size = m) (hm : m ≤ 1000000) : rowF elI w.heap.size [] (.slice (some ⟨w.heap.size, 0, none⟩) 0 m) (w.alloc (.cells cs0 3)) :=
  ⟨⟨by simp [flatE], .inr ⟨w.heap.size, m, cs0, rfl, Nat.zero_le _, heap_alloc_new w _, Nat.zero_le _, by unfold maxLen; omega, by simp [elI, h], by simp [flatE]⟩⟩, fun g hg => by cases hg; exact Nat.le_refl _⟩
theorem rowOf_take (V : List ByteArray) (gf : ByteArray → Int) (j : Nat) {x : ByteArray} (hx : V[j]? = some x) : (rowOf V gf).take (j + 1) = (rowOf V gf).take j ++ [max (gf x) (-1)] := by
  rw [List.take_add_one, rowOf, List.getElem?_map, hx]; rfl

set_option maxRecDepth 100000 in
theorem row_anyK (ok : Nat → Prop) (H p g : Nat) (lb : Array Value) (eg : ∀ args w, (callFunc g args).run Tryd.prog w = .ok (.enter g args) w) (V : List ByteArray) (R : List (List Int)) (gf : ByteArray → Int) (w : World) (hB : TabK ok H w p V R) (hof : IsOf w g lb V gf) (hok : ∀ b, w.heap.size ≤ b → ok b) (hH : H ≤ w.heap.size) (hokH : ∀ b, ok b → H ≤ b) (hm : V.length ≤ 1000000) (hr : R.length < 1000000) :
    Calls Tryd.prog 55 #[.pointer (some ⟨p, 0, none⟩), .func (.func g) #[] lb] w fun e w' => e = .returned (.tuple #[]) ∧ TabK ok H w' p V (R ++ [rowOf V gf]) ∧ Upd (fun b => ok b ∨ b = p) w w' := by
  obtain ⟨vv, rv, hb, how⟩ := hB
  have hvv := rdS_row how.1.1
  obtain ⟨A, c, rfl⟩ := rdS_form hvv
  obtain ⟨B, d, rfl⟩ := rdW_form (own_rdW (ownK_own how hokH))
  obtain ⟨cs0, hcs0, hmk⟩ := make_row V.length hm
  have q0 : w.cell? ⟨p, 0, none⟩ = some (.slice A V.length c) := block_cell hb 0
  have q1 : w.cell? ⟨p, 1, none⟩ = some (.slice B R.length d) := block_cell hb 1
  have lp := block_lt hb
  have HB := Lib.hid hb
  have HOW := Lib.hid how
  have HOF := Lib.hid hof
  have HV := Lib.hid hvv
  have HC0 := Lib.hid hcs0
  clear hb how hof hvv hcs0
  go_enter Tryd.func55, Tryd.ntmps55
  have hE0 : Ext w (w.alloc (.cells cs0 3)) := ext_alloc (ext_refl _) _
  have HE0 := Lib.hid hE0
  clear hE0
  go_wp2
  go_loopw [18, 4] (fun x y wr => ∃ (j : Nat) (A' : Option Addr) (c' : Nat), j ≤ V.length ∧ x = .int .i64 j ∧ y = .slice A' j c' ∧ rowF elI w.heap.size ((rowOf V gf).take j) (.slice A' j c') wr ∧ Ext w wr) (fun x _ _ => V.length - (intOf x).toNat)
  case atStart => exact ⟨0, _, _, Nat.zero_le _, rfl, rfl, made_row HC0.out hm, HE0.out⟩
  case round =>
    rename World => wo
    obtain ⟨j, A', c', hj, rfl, rfl, hrow, hE⟩ := hrel
    have HE := Lib.hid hE
    have HR := Lib.hid hrow
    clear hE hrow
    by_cases hlt : j < V.length
    · have hji : (j : Int) < (V.length : Int) := by omega
      have hj0 : (0 : Int) ≤ (j : Int) := by omega
      obtain ⟨x, hx⟩ : ∃ x, V[j]? = some x := ⟨_, List.getElem?_eq_getElem hlt⟩
      have HX := Lib.hid hx
      obtain ⟨b, o, rfl, hb, hc⟩ := rdS_at (rdS_ext HV.out HE.out) hx
      have HC := Lib.hid (HOF.out wo HE.out x (List.mem_of_getElem? hx))
      clear hx
      go_wp2_with (first
        | (go_at_fn g; refine HC.out.mono ?_; rintro e w1 ⟨rfl, hE1⟩; have HE1 := Lib.hid (ext_trans HE.out hE1); have HR1 := Lib.hid (rowF_ext _ _ _ hE1 HR.out); clear hE1)
        | (at_builtin; refine halt_here ?_))
      refine go_on ?_
      rename World => w1
      have HE1a := Lib.hid (ext_alloc HE1.out (.cells #[.int .i64 (max (gf x) (-1))] 3))
      refine wpList_append rfl (.tmp 22) (.tmp 27) rfl (.slice A' j c') (.slice (some ⟨w1.heap.size, 0, none⟩) 1 1) rfl rfl (fun v' w' => rowF elI w.heap.size ((rowOf V gf).take j ++ [max (gf x) (-1)]) v' w' ∧ (w1.alloc (.cells #[.int .i64 (max (gf x) (-1))] 3)).grownBy w' (Value.slice A' j c').ownBlock) (append_onto tpI _ w.heap.size (.slice A' j c') _ ((rowOf V gf).take j) [max (gf x) (-1)] (w1.alloc (.cells #[.int .i64 (max (gf x) (-1))] 3)) (rowF_ext _ _ _ (ext_alloc (ext_refl _) _) HR1.out) (srcOf_one (H := 0) ⟨w1.heap.size, rfl, Nat.zero_le _, heap_alloc_new w1 _⟩) (by rw [List.length_take]; simp; omega) (ext_size HE1a.out)) ?_
      rintro v5 w5 ⟨hR5, hG5⟩
      have HE5 := Lib.hid (ext_grown HE1a.out hG5 HR1.out.2 (Nat.le_refl _))
      obtain ⟨A5, c5, rfl⟩ := rowE_form hR5.1
      have hlen : ((rowOf V gf).take j ++ [max (gf x) (-1)]).length = j + 1 := by simp [rowOf]; omega
      rw [hlen] at hR5 ⊢
      have HR5 := Lib.hid hR5
      clear hR5 hG5 hlen
      go_wp2
      go_roundw
      case rel => exact ⟨j + 1, _, _, by omega, by go_num, rfl, by rw [rowOf_take V gf j HX.out]; exact HR5.out, HE5.out⟩
      case measure => simp [intOf]; omega
    · obtain rfl : j = V.length := by omega
      have q1' := (ext_cell HE.out p 1 lp).trans q1
      have lp' := ext_lt HE.out lp
      go_wp2_with (at_builtin; refine halt_here ?_)
      refine go_on ?_
      have hfull : (rowOf V gf).take V.length = rowOf V gf := List.take_of_length_le (by simp [rowOf])
      have hrx := HR.out
      rw [hfull] at hrx
      have HRX := Lib.hid (rowF_low hrx hH)
      obtain ⟨hown1, sl, hsl, hlen, hrows⟩ := HOW.out
      have HSL := Lib.hid (rowG_ext _ _ _ (ext_alloc HE.out (.cells #[.slice A' V.length c'] 41)) hsl)
      have HEa := Lib.hid (ext_alloc HE.out (.cells #[.slice A' V.length c'] 41))
      have HRXa := Lib.hid (rowF_ext _ _ _ (ext_alloc (ext_refl wo) (.cells #[.slice A' V.length c'] 41)) HRX.out)
      have HROWS := Lib.hid (fun i s x hs hx => rowF_ext _ _ _ HEa.out (hrows i s x hs hx))
      have HV1 := Lib.hid (rowF_ext _ _ _ HEa.out hown1)
      have HLEN := Lib.hid hlen
      have HBa := Lib.hid ((ext_block HEa.out (block_lt HB.out)).trans HB.out)
      clear hfull hrx hown1 hsl hlen hrows
      refine wpList_append rfl (.tmp 34) (.tmp 36) rfl (.slice B R.length d) (.slice (some ⟨wo.heap.size, 0, none⟩) 1 1) rfl rfl (fun v' w' => rowG elW ok (sl ++ [((A', V.length, c') : Sl)]) v' w' ∧ (wo.alloc (.cells #[.slice A' V.length c'] 41)).grownBy w' (Value.slice B R.length d).ownBlock) (append_ok tpW _ ok (.slice B R.length d) _ sl [((A', V.length, c') : Sl)] (wo.alloc (.cells #[.slice A' V.length c'] 41)) HSL.out (srcOf_one (H := 0) ⟨wo.heap.size, rfl, Nat.zero_le _, heap_alloc_new wo _⟩) (by rw [HLEN.out]; simp; omega) (fun b hb => hok b (Nat.le_trans (ext_size HEa.out) hb))) ?_
      rintro v5 w5 ⟨hR5, hG5⟩
      obtain ⟨A5, c5, rfl⟩ := rowE_form hR5.1
      obtain ⟨n5, hn5⟩ : ∃ n5, n5 = (sl ++ [((A', V.length, c') : Sl)]).length := ⟨_, rfl⟩
      rw [← hn5] at hR5 ⊢
      clear hn5
      have hp5 : some p ≠ (Value.slice B R.length d).ownBlock := fun e => rowE_off HSL.out.1 HBa.out (by decide) e.symm
      have hb5 := (hG5.block p (block_lt HBa.out) hp5).trans HBa.out
      have hU5 := upd_grown hG5
      have hne5 : (Value.slice A5 n5 c5).ownBlock ≠ some p := rowE_off hR5.1 hb5 (by decide)
      have q5 : w5.cell? ⟨p, 1, none⟩ = some (.slice B R.length d) := block_cell hb5 1
      have f5 : w5.frozen? ⟨p, 1, none⟩ = false := block_frozen hb5 1
      have l5 := block_lt hb5
      have hU6 := upd_trans (fp := fun b => (Value.slice B R.length d).ownBlock = some b ∨ b = p) (upd_mono hU5 (fun _ _ h => .inl h)) (upd_setCell (w := w5) (a := ⟨p, 1, none⟩) (.slice A5 n5 c5)) (fun _ _ h => .inr h)
      have hown6 : OwnK ok H (w5.setCell ⟨p, 1, none⟩ (.slice A5 n5 c5)) (.slice A V.length c) (.slice A5 n5 c5) V (R ++ [rowOf V gf]) := own_moreK HV1.out ⟨rowE_upd hR5.1 (upd_setCell (w := w5) (a := ⟨p, 1, none⟩) (.slice A5 n5 c5)) (fun b hb (e : b = p) => hne5 (by rw [← e]; exact hb)), hR5.2⟩ HLEN.out HROWS.out HRXa.out hU6 (fun b hf cur t hbt => by
        rcases hf with hf | hf
        · obtain ⟨_, cur', hc'⟩ := rowE_block HSL.out.1 hf
          rw [hbt] at hc'
          simp only [Option.some.injEq, Obj.cells.injEq] at hc'
          rw [hc'.2.1]
          exact ⟨by decide, by decide⟩
        · subst hf
          rw [HBa.out] at hbt
          simp only [Option.some.injEq, Obj.cells.injEq] at hbt
          rw [← hbt.2.1]
          exact ⟨by decide, by decide⟩)
      have HT6 := Lib.hid (show TabK ok H (w5.setCell ⟨p, 1, none⟩ (.slice A5 n5 c5)) p V (R ++ [rowOf V gf]) from ⟨.slice A V.length c, (.slice A5 n5 c5), heap_setCell_at hb5, hown6⟩)
      have HU6 := Lib.hid (show Upd (fun b => ok b ∨ b = p) w (w5.setCell ⟨p, 1, none⟩ (.slice A5 n5 c5)) from upd_trans (upd_of_ext HEa.out) hU6 (fun b _ hf => hf.elim (fun e => .inl (HSL.out.2 b e)) .inr))
      clear hR5 hG5 hp5 hb5 hU5 hne5 hU6 hown6
      go_wp2
      go_end0
      exact ⟨rfl, HT6.out, HU6.out⟩
theorem row_any (H p g : Nat) (lb : Array Value) (eg : ∀ args w, (callFunc g args).run Tryd.prog w = .ok (.enter g args) w) (V : List ByteArray) (R : List (List Int)) (gf : ByteArray → Int) (w : World) (hB : TabB H w p V R) (hof : IsOf w g lb V gf) (hp : H ≤ p) (hH : H ≤ w.heap.size) (hm : V.length ≤ 1000000) (hr : R.length < 1000000) :
    Calls Tryd.prog 55 #[.pointer (some ⟨p, 0, none⟩), .func (.func g) #[] lb] w fun e w' => e = .returned (.tuple #[]) ∧ TabB H w' p V (R ++ [rowOf V gf]) ∧ Upd (fun b => H ≤ b) w w' :=
  (row_anyK (fun b => H ≤ b) H p g lb eg V R gf w hB hof (fun b hb => Nat.le_trans hH hb) hH (fun _ h => h) hm hr).mono fun e w' h => ⟨h.1, h.2.1, upd_mono h.2.2 (fun b _ hb => hb.elim id (fun e => e ▸ hp))⟩
end Go.Proofs.YtniggdaakiofeaaDoor
