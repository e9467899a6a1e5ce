/- Compile. -/
import Derived.Test.YtiabmdboacpmcaaPk
import Derived.Test.YtiabmdboacpmcaaPe
namespace Go.Proofs.Ytiabmdboacpmcaa
open Go Go.RowKit Go.Sort
set_option maxHeartbeats 1000000

theorem cur_set1 {W w : World} {p m : Nat} {bg en : Int} {mv : List Mv} (h : Cur W p bg en mv m w) (b' : Int) : Cur W p b' en mv m (w.setCell ⟨p, 1, none⟩ (.int .i64 b')) ∧ p < w.heap.size ∧ (∃ A c n, w.heap[p]? = some (.cells #[.slice A n c, .int .i64 bg, .int .i64 en] 106 (0, 0))) ∧ W.heap.size ≤ p := by
  obtain ⟨Ms, ⟨hp, A, c, Vs, h1, h2, h3, h4, h5⟩, k2, k3, k4, k5⟩ := h
  refine ⟨⟨Ms, ⟨hp, A, c, Vs, ?_, upd_off h2 h1 (by decide), h3, fun i x l hx hl => upd_off (h4 i x l hx hl) h1 (by decide), h5⟩, k2, k3, k4, ext_set k5 hp _⟩, block_lt h1, ⟨A, c, _, h1⟩, hp⟩
  rw [heap_setCell_at h1]
  rfl
theorem cur_set2 {W w : World} {p m : Nat} {bg en : Int} {mv : List Mv} (h : Cur W p bg en mv m w) (b' : Int) : Cur W p bg b' mv m (w.setCell ⟨p, 2, none⟩ (.int .i64 b')) := by
  obtain ⟨Ms, ⟨hp, A, c, Vs, h1, h2, h3, h4, h5⟩, k2, k3, k4, k5⟩ := h
  refine ⟨Ms, ⟨hp, A, c, Vs, ?_, upd_off h2 h1 (by decide), h3, fun i x l hx hl => upd_off (h4 i x l hx hl) h1 (by decide), h5⟩, k2, k3, k4, ext_set k5 hp _⟩
  rw [heap_setCell_at h1]
  rfl
theorem cur_new (W w : World) (hW : Ext W w) : Cur W w.heap.size 0 0 [] 0 (w.alloc (.cells #[.slice none 0 0, .int .i64 0, .int .i64 0] 106)) :=
  ⟨[], ⟨ext_size hW, none, 0, [], heap_alloc_new _ _, rowF_nil _ _, rfl, fun i x l hx => by simp at hx, fun i j x y b _ hx => by simp at hx⟩, rfl, fun s o d => ⟨fun ⟨l, hl, _⟩ => (by simp at hl), fun h => (by cases h)⟩, fun l hl => (by cases hl), ext_alloc hW _⟩

/-- the machine of a path -/
def MachT (W w : World) (p : Nat) (t : Tr) : Prop := Cur W p 0 ((gen t 1 0).last : Int) (gen t 1 0).moves (gen t 1 0).many w ∧ Form t ∧ sizeT t ≤ 200
theorem machT_ext {W w w' : World} {p : Nat} {t : Tr} (h : MachT W w p t) (hE : Ext w w') : MachT W w' p t := ⟨cur_ext h.1 hE, h.2⟩
theorem chk_ok {t : Tr} (h : chk t = 0) : Form t ∧ sizeT t ≤ 200 := by
  rw [chk] at h
  split at h
  · split at h
    · cases h
    · split at h
      · rename_i h1 h2 h3; exact ⟨formB_iff t h3, by omega⟩
      · cases h
  · cases h

def CompNo (t : Tr) (w : World) (e : Ending) (w' : World) : Prop := e = .returned (.tuple #[.pointer none, .int .i64 (chk t)]) ∧ Ext w w'
def CompYes (t : Tr) (w : World) (e : Ending) (w' : World) : Prop := ∃ p, e = .returned (.tuple #[.pointer (some ⟨p, 0, none⟩), .int .i64 0]) ∧ MachT w w' p t ∧ Ext w w'
theorem compile_no (t : Tr) (v : Value) (w : World) (hN : sizeT t ≤ 100000) (hv : PV w t v) (hc : chk t ≠ 0) : Calls Try.prog 22 #[v] w (CompNo t w) := by
  have HV := Lib.hid hv
  have HN := Lib.hid hN
  obtain ⟨c, hcc⟩ : ∃ c, c = chk t := ⟨_, rfl⟩
  have hne : (c != 0) = true := by rw [hcc]; simpa using hc
  have hne2 : (c == 0) = false := by rw [hcc]; simpa using hc
  have c0 := Lib.hid (fun w1 (hE : Ext w w1) => check_any t v w1 hN (PV_ext hv hE))
  rw [← hcc] at c0
  have HCC := Lib.hid hcc
  clear hcc hc hN
  cases t with
  | node k n ps =>
    obtain ⟨s, rfl, hs⟩ := hv
    obtain ⟨A, cp, rfl⟩ := PS_form hs
    clear hs
    obtain ⟨t, ht⟩ : ∃ t, t = Tr.node k n ps := ⟨_, rfl⟩
    rw [← ht] at HCC ⊢
    clear ht
    go_enter Try.func22, Try.ntmps22
    go_wp2_with (go_at_call 23; refine (c0.out _ (ext_alloc (ext_refl _) _)).mono ?_; rintro e w1 ⟨rfl, hE1⟩; have HE1 := Lib.hid (ext_trans (ext_alloc (ext_refl _) _) hE1); clear hE1)
    refine bodyPost_ret (results_tmp2 rfl _ _ _) rfl ?_
    exact ⟨by rw [← HCC.out]; rfl, HE1.out⟩
theorem compile_yes (t : Tr) (v : Value) (w : World) (hv : PV w t v) (hc : chk t = 0) : Calls Try.prog 22 #[v] w (CompYes t w) := by
  have HV := Lib.hid hv
  have HT := Lib.hid (chk_ok hc)
  have c0 := Lib.hid (fun w1 (hE : Ext w w1) => check_any t v w1 (Nat.le_trans HT.out.2 (by decide)) (PV_ext hv hE))
  rw [hc] at c0
  have HF := Lib.hid (chk_ok hc).1
  have hsz := (chk_ok hc).2
  clear hc
  cases t with
  | node k n ps =>
    obtain ⟨s, rfl, hs⟩ := hv
    obtain ⟨A, cp, rfl⟩ := PS_form hs
    clear hs
    obtain ⟨t, ht⟩ : ∃ t, t = Tr.node k n ps := ⟨_, rfl⟩
    rw [← ht] at hsz HT HF HV ⊢
    clear ht
    go_enter Try.func22, Try.ntmps22
    go_wp2_with fail
    have hE0 : Ext w (w.alloc (.cells #[.int .i64 k, .int .i64 n, .slice A ps.length cp] 30)) := ext_alloc (ext_refl _) _
    have hB0 := heap_alloc_new w (.cells #[.int .i64 k, .int .i64 n, .slice A ps.length cp] 30)
    refine (c0.out _ hE0).mono ?_
    rintro e w1 ⟨rfl, hE1⟩
    have HE1 := Lib.hid (ext_trans hE0 hE1)
    have HB1 := Lib.hid ((ext_block hE1 (block_lt hB0)).trans hB0)
    clear hE1 hE0 hB0
    go_wp2_with fail
    have hE2 : Ext w1 (w1.alloc (.cells #[.slice none 0 0, .int .i64 0, .int .i64 0] 106)) := ext_alloc (ext_refl _) _
    refine (state_cur w _ w1.heap.size 0 0 0 [] (cur_new w w1 HE1.out) (by omega)).mono ?_
    rintro e w2 ⟨rfl, hc2, hu2⟩
    have HB2 := Lib.hid (mt_block hu2 ((ext_block hE2 (block_lt HB1.out)).trans HB1.out) (by decide))
    obtain ⟨k1, k2, ⟨A3, c3, n3, k3⟩, k4⟩ := cur_set1 hc2 0
    have HC2 := Lib.hid k1
    have hq1 := block_cell k3 1
    have hqf := block_frozen k3 1
    have lp := k2
    have hpB : w1.heap.size ≠ w.heap.size := by have := block_lt HB1.out; omega
    have HB3 := Lib.hid (show (w2.setCell ⟨w1.heap.size, 1, none⟩ (.int .i64 0)).heap[w.heap.size]? = some (.cells #[.int .i64 k, .int .i64 n, .slice A ps.length cp] 30 (0, 0)) by rw [Below.heap_setCell _ _ _ _ (by exact fun e => hpB e.symm)]; exact HB2.out)
    simp at hq1
    clear hc2 hu2 k1 k2 k3 k4 hE2
    have HU2 := Lib.hid (show True from trivial)
    go_wp2
    refine wp_gen (fun W0 hW0 => ?_)
    rw [← hW0] at HC2 HB3
    clear hW0 hq1 hqf HB2 HU2 HB1
    obtain ⟨k1, k2, ⟨A4, c4, n4, k3⟩, k4⟩ := cur_set1 HC2.out 0
    have HK3 := Lib.hid k3
    have hnb : ¬ (MT W0 w.heap.size ∨ W0.heap.size ≤ w.heap.size) := fun h => by
      rcases h with ⟨cs, tt, fr, h1, h2⟩ | h
      · rw [HB3.out] at h1
        simp only [Option.some.injEq, Obj.cells.injEq] at h1
        obtain ⟨-, rfl, -⟩ := h1
        simp at h2
      · have := block_lt HB3.out; omega
    have b0 : ∀ pw : UW (fun b => MT W0 b ∨ W0.heap.size ≤ b) W0, pw.val.cell? ⟨w.heap.size, 0, none⟩ = some (.int .i64 k) := uw_cell (block_cell HB3.out 0) hnb
    have b1 : ∀ pw : UW (fun b => MT W0 b ∨ W0.heap.size ≤ b) W0, pw.val.cell? ⟨w.heap.size, 1, none⟩ = some (.int .i64 n) := uw_cell (block_cell HB3.out 1) hnb
    have b2 : ∀ pw : UW (fun b => MT W0 b ∨ W0.heap.size ≤ b) W0, pw.val.cell? ⟨w.heap.size, 2, none⟩ = some (.slice A ps.length cp) := uw_cell (block_cell HB3.out 2) hnb
    have lp0 := k2
    clear k1 k2 k3 k4 hnb lp
    refine wp_region_upd (fp := fun b => MT W0 b ∨ W0.heap.size ≤ b) [] [0, 1, 2, 3, 4, 5] [(6, fun v _ => v = .int .i64 0)] 7 (fun v w' => v = .int .i64 ((gen t 1 0).last : Int) ∧ Cur w w1.heap.size 0 0 (gen t 1 0).moves (gen t 1 0).many w') [8, 9, 10] [6, 7] rfl (by kernel_rfl) (by kernel_rfl) (by kernel_rfl) (fun _ _ d _ _ h => by cases d <;> exact h) ?_
    refine wpPre_nil ?_
    repeat (refine wpU_step rfl (fun K hK => ?_); (try simp only [Oper.quietAt, Oper.quietUpon]); go_simp; (refine hK _ ?_; clear hK K))
    refine wpU_nil ?_
    refine wpGen_step rfl rfl (fun _ _ _ _ h => h) (fun w6 hE6 hS6 => ?_) (fun v0 => ?_)
    · have q1 : w6.cell? ⟨w1.heap.size, 1, none⟩ = some (.int .i64 0) := block_cell ((ext_block hE6 lp0).trans HK3.out) 1
      have l6 := ext_lt hE6 lp0
      simp only [runsAt]
      go_simp
      exact ext_refl _
    refine wpGen_nil ?_
    refine ⟨⟨_, rfl, rfl, fun v a b hE hR => ⟨hR.1, cur_ext hR.2 hE⟩⟩, fun w6 hE6 hS6 o ho => ?_, fun o ho v w6 hU6 hR6 => ?_⟩
    · cases ho
      have hv0 : v0 = .int .i64 0 := hS6 _ (List.mem_cons_self ..)
      subst hv0
      simp only [runsAt]
      go_simp
      have hl := lay_all 200 t _ w w6 w1.heap.size 1 0 0 0 [] HT.out.2 HF.out HV.out (cur_ext HC2.out hE6) (by omega) (by omega) (by simp; omega)
      refine hl.mono ?_
      rintro e w7 ⟨rfl, hc7, hu7⟩
      refine ⟨_, rfl, upd_mono hu7 (fun b hb hm => ?_), rfl, hc7⟩
      rcases Nat.lt_or_ge b W0.heap.size with h | h
      · obtain ⟨cs, tt, fr, h1, h2⟩ := hm
        exact .inl ⟨cs, tt, fr, by rw [← ext_block hE6 h]; exact h1, h2⟩
      · exact .inr h
    · cases ho
      obtain ⟨rfl, hc6⟩ := hR6
      obtain ⟨_, k2, ⟨A5, c5, n5, k3⟩, _⟩ := cur_set1 hc6 0
      have HFIN := Lib.hid (cur_set2 hc6 ((gen t 1 0).last : Int))
      have hq2 := block_cell k3 2
      have hqf := block_frozen k3 2
      simp at hq2
      clear hc6 k3 b0 b1 b2 lp0
      obtain ⟨la, hla⟩ : ∃ la, la = (gen t 1 0).last := ⟨_, rfl⟩
      have HLA := Lib.hid hla
      have HFIN2 : Hid (Cur w w1.heap.size 0 (la : Int) (gen t 1 0).moves (gen t 1 0).many (w6.setCell ⟨w1.heap.size, 2, none⟩ (.int .i64 (la : Int)))) := by rw [hla]; exact HFIN
      rw [← hla]
      clear hla HFIN
      refine wpSeq_of_list [8, 9, 10] [_, _, _] _ _ rfl ?_
      go_wp2
      refine bodyPost_ret (results_tmp2 rfl _ _ _) rfl ?_
      exact ⟨_, rfl, ⟨by rw [← HLA.out]; exact HFIN2.out, HF.out, hsz⟩, cur_W HFIN2.out⟩
end Go.Proofs.Ytiabmdboacpmcaa
