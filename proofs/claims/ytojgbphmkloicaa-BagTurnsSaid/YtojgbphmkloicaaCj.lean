/- Expire. -/
import Derived.Test.YtojgbphmkloicaaBt
import Derived.Test.YtojgbphmkloicaaBv
import Derived.Test.YtojgbphmkloicaaBq
namespace Go.Proofs.Ytojgbphmkloicaa
open Go Go.RowKit Go.Sort
set_option maxHeartbeats 4000000

theorem bagAt_cut {w w2 : World} {pb i j : Nat} {room : Int} {bs : List Bk} {ps : List (Nat × Nat)} {v v' : Value} {F : Nat → Prop} (h : BagAt w pb room bs ps v F) (hij : i ≤ j) (hj : j ≤ bs.length) (hU : Upd (fun b => v.ownBlock = some b ∨ b = pb) w w2)
    (hblk : w2.heap[pb]? = some (.cells #[v', .int .i64 room, .int .i64 (lenB (bs.take i ++ bs.drop j) : Int)] 47 (0, 0))) (hrow : rowE elBk w2 v' (cutAt (ps.map (·.1)) i j)) (hown : v'.ownBlock = v.ownBlock) :
    BagAt w2 pb room (bs.take i ++ bs.drop j) (ps.take i ++ ps.drop j) v' F := by
  have hl := h.len
  have hoff : ∀ p m b, BkAt w p m b → BkAt w2 p m b := fun p m b hB => by
    obtain ⟨N, _, hm⟩ := hB.map
    refine bkAt_upd hB hU ?_ ?_
    · rintro (e | e)
      · obtain ⟨_, cur, hc⟩ := rowE_block h.row e
        rw [hB.blk] at hc
        simp only [Option.some.injEq, Obj.cells.injEq] at hc
        exact absurd hc.2.1 (by decide)
      · have h5 := hB.blk
        rw [e, h.blk] at h5
        simp only [Option.some.injEq, Obj.cells.injEq] at h5
        exact absurd h5.2.1 (by decide)
    · rintro (e | e)
      · obtain ⟨_, cur, hc⟩ := rowE_block h.row e
        exact mapG_off hm hc rfl
      · exact mapG_off hm h.blk e.symm
  refine ⟨hblk, ?_, ?_, fun k p m b hp hb => ?_, rise_cut h.rise i j hij, ?_, ?_, h.own.1, fun g hg => h.own.2.1 g (by rw [← hown]; exact hg), fun x hx => h.own.2.2 x ?_⟩
  · have e : (ps.take i ++ ps.drop j).map (·.1) = cutAt (ps.map (·.1)) i j := by simp [cutAt, List.map_take, List.map_drop]
    rw [e]
    exact hrow
  · simp only [List.length_append, List.length_take, List.length_drop]
    omega
  · rw [cut_at (by omega)] at hp hb
    split at hp
    · rename_i hk
      rw [if_pos hk] at hb
      exact hoff _ _ _ (h.at_ _ _ _ _ hp hb)
    · rename_i hk
      rw [if_neg hk] at hb
      exact hoff _ _ _ (h.at_ _ _ _ _ hp hb)
  · have e : (ps.take i ++ ps.drop j).map (·.1) = (ps.map (·.1)).take i ++ (ps.map (·.1)).drop j := by simp [List.map_take, List.map_drop]
    rw [e]
    exact nodup_cut h.nd1 hij
  · have e : (ps.take i ++ ps.drop j).map (·.2) = (ps.map (·.2)).take i ++ (ps.map (·.2)).drop j := by simp [List.map_take, List.map_drop]
    rw [e]
    exact nodup_cut h.nd2 hij
  · rcases List.mem_append.1 hx with h5 | h5
    · exact List.mem_of_mem_take h5
    · exact List.mem_of_mem_drop h5
theorem lenB_take {bs : List Bk} {j : Nat} {b : Bk} (h : bs[j]? = some b) : lenB (bs.take (j + 1)) = lenB (bs.take j) + b.2.length := by
  unfold lenB
  rw [List.take_add_one, h, Option.toList_some, List.map_append, List.sum_append]
  simp
theorem lenB_le (bs : List Bk) (j : Nat) : lenB (bs.take j) + lenB (bs.drop j) = lenB bs := by
  conv => rhs; rw [← List.take_append_drop j bs]
  unfold lenB
  rw [List.map_append, List.sum_append]
def ExpPost (pb : Nat) (room : Int) (E : List Ev) (F : Nat → Prop) (t : Int) (w : World) (e : Ending) (w' : World) : Prop := ∃ n : Nat, e = .returned (.int .i64 (n : Int)) ∧ n + (lateE t E).length = E.length ∧ BagM w' pb room (lateE t E) F ∧ Upd F w w'
theorem expire_any (pb : Nat) (room : Int) (E : List Ev) (F : Nat → Prop) (t : Int) (w : World) (h : BagM w pb room E F) (hm : E.length ≤ 100000) :
    Calls Try.prog 11 #[ptr pb, .int .i64 t] w (ExpPost pb room E F t w) := by
  obtain ⟨bs, ps, v, hA, hP, hNe⟩ := h
  have hlen : lenB bs = E.length := by rw [lenB_flat, hP.length_eq]
  have hbl : bs.length ≤ 100000 := by have := len_le_lenB hNe; omega
  have hpl : (ps.map (·.1)).length = bs.length := by rw [List.length_map, hA.len]
  have CF := Lib.hid (fun w' (hE : Ext w w') => find_any pb room bs ps v F t w' (bagAt_ext hA hE) (by omega))
  obtain ⟨i, hi⟩ : ∃ i, i = idxB bs t := ⟨_, rfl⟩
  have hil : i ≤ bs.length := by rw [hi]; exact idxB_le bs t
  have CD := Lib.hid (delete_any v (ps.map (·.1)) 0 i w hA.row (Nat.zero_le _) (by rw [hpl]; exact hil) (by rw [hpl]; omega))
  have FIN := Lib.hid (show ∀ (v' : Value) (w9 : World), rowE elBk w9 v' (cutAt (ps.map (·.1)) 0 i) → v'.ownBlock = v.ownBlock → w9.heap[pb]? = some (.cells #[v', .int .i64 room, .int .i64 ((lenB bs : Int) - (lenB (bs.take i) : Int))] 47 (0, 0)) → Upd (fun b => v.ownBlock = some b ∨ b = pb) w w9 → ExpPost pb room E F t w (.returned (.int .i64 (lenB (bs.take i) : Int))) w9 from fun v' w9 h1 h2 h3 h4 => by
    have h5 := lenB_le bs i
    have h6 : (lenB bs : Int) - (lenB (bs.take i) : Int) = (lenB (bs.take 0 ++ bs.drop i) : Int) := by
      rw [List.take_zero, List.nil_append]
      omega
    rw [h6] at h3
    have h7 := bagAt_cut hA (Nat.zero_le i) hil h4 h3 h1 h2
    rw [List.take_zero, List.nil_append] at h7
    have h8 := exp_many hA.rise t
    rw [← hi] at h8
    refine ⟨_, rfl, ?_, ⟨_, _, _, h7, ?_, fun b hb => hNe b (List.mem_of_mem_drop hb)⟩, upd_mono h4 (fun b _ e => ?_)⟩
    · have h9 : (lateE t E).length = ((flatB bs).filter fun e => decide (t ≤ e.1)).length := (late_perm (t := t) hP).length_eq
      have h10 := lenB_flat bs
      omega
    · rw [hi, exp_flat hA.rise t]
      exact late_perm hP
    · rcases e with e | rfl
      · exact hA.own.2.1 b e
      · exact hA.own.1)
  have hrow := hA.row
  have hblk := hA.blk
  have HBK := Lib.hid (fun j (hj : j < bs.length) => bag_at hA (List.getElem?_eq_getElem hj))
  have HBL := Lib.hid hblk
  have HLN := Lib.hid hlen
  have q0 := block_cell hblk 0
  have q2 := block_cell hblk 2
  have l0 := block_lt hblk
  have hpl' := hpl
  clear hA hP hNe hlen hpl
  rw [← hi] at CF
  clear hi
  rcases row_is hrow with ⟨rfl, hnil⟩ | ⟨g, cap, cur, rfl, hg, g1, g2, g3, g4⟩
  · have hi0 : i = 0 := by
      rw [hnil] at hpl'
      simp at hpl'
      omega
    subst hi0
    have HBL0 := Lib.hid hil
    clear hrow hblk
    go_enter Try.func11, Try.ntmps11
    go_wp2_with fail
    refine (CF.out _ (ext_refl _)).mono ?_
    rintro e w1 ⟨rfl, hw1⟩
    have hw2 := hw1.symm
    subst hw2
    clear hw1
    go_wp2
    go_loopw [7, 23] (fun x y wr => y = .int .i64 0 ∧ x = .int .i64 0 ∧ wr = w) (fun _ _ _ => 0)
    case atStart => exact ⟨rfl, rfl, rfl⟩
    case round =>
      obtain ⟨rfl, rfl, hwr⟩ := hrel
      have hwr2 := hwr.symm
      subst hwr2
      clear hwr
      go_wp2_with fail
      refine CD.out.mono ?_
      rintro e w2 ⟨v', rfl, hr', hU', hown'⟩
      have hpb2 := (hU'.block pb l0 (fun e => by cases e)).trans HBL.out
      obtain ⟨A', c', hv'⟩ := rowE_form hr'
      obtain ⟨n', hn'⟩ : ∃ x, x = (cutAt (ps.map (·.1)) 0 0).length := ⟨_, rfl⟩
      rw [← hn'] at hv'
      subst hv'
      have y0 := block_cell hpb2 0
      have f0 := block_frozen hpb2 0
      have l2 := block_lt hpb2
      have hset := heap_setCell_at (j := 0) (u := .slice A' n' c') hpb2
      have z0 : (w2.setCell ⟨pb, 0, none⟩ (.slice A' n' c')).cell? ⟨pb, 2, none⟩ = some (.int .i64 (lenB bs : Int)) := block_cell hset 2
      have z1 : (w2.setCell ⟨pb, 0, none⟩ (.slice A' n' c')).frozen? ⟨pb, 2, none⟩ = false := block_frozen hset 2
      have hle := HLN.out
      have HR' := Lib.hid hr'
      have HO' := Lib.hid hown'
      have HSET := Lib.hid hset
      have HU' := Lib.hid hU'
      clear hr' hown' hset hU' hpb2 hle hn'
      go_wp2
      refine bodyPost_ret (results_tmp rfl _ _ _) rfl ?_
      have h6 := FIN.out (.slice A' n' c') _ (rowE_upd HR'.out (upd_trans (fp := fun b => b = pb) (upd_setCell (a := ⟨pb, 0, none⟩) _) (upd_setCell (a := ⟨pb, 2, none⟩) _) (fun _ _ h => h)) (fun b hb e => by
        rw [HO'.out] at hb
        cases hb)) HO'.out (heap_setCell_at (j := 2) (u := .int .i64 (lenB bs : Int)) HSET.out |>.trans (by simp [lenB])) (upd_trans (upd_mono HU'.out (fun _ _ h => .inl h)) (upd_trans (fp := fun b => b = pb) (upd_setCell (a := ⟨pb, 0, none⟩) _) (upd_setCell (a := ⟨pb, 2, none⟩) _) (fun _ _ h => h)) (fun _ _ h => .inr h))
      have hle := HLN.out
      rw [show wrap64 ((lenB bs : Nat) : Int) = (lenB bs : Int) from IntWalk.wrap64_in _ (by omega)]
      exact h6
  · have HCELL := Lib.hid (fun (k p : Nat) (hk : (ps.map (·.1))[k]? = some p) => row_ptr hrow hk)
    have lg := block_lt hg
    obtain ⟨n, hn⟩ : ∃ n, n = (ps.map (·.1)).length := ⟨_, rfl⟩
    rw [← hn] at g1 q0 q2 CD FIN hblk
    have HN := Lib.hid (hn.trans hpl')
    rw [← hn] at hrow
    have a1 : (i : Int) ≤ (cap : Int) := by rw [← hn] at hpl'; omega
    have a0 : (0 : Int) ≤ (i : Int) := by omega
    have HBLK := Lib.hid hblk
    have hrow' := hrow
    clear hrow hblk hg g2 g3 g4 hn hpl'
    go_enter Try.func11, Try.ntmps11
    go_wp2_with fail
    refine (CF.out _ (ext_refl _)).mono ?_
    rintro e w1 ⟨rfl, hw1⟩
    have hw2 := hw1.symm
    subst hw2
    clear hw1
    go_wp2
    go_loopw [7, 23] (fun x y wr => ∃ j : Nat, j ≤ i ∧ y = .int .i64 (j : Int) ∧ x = .int .i64 (lenB (bs.take j) : Int) ∧ wr = w) (fun _ y _ => i - (intOf y).toNat)
    case atStart => exact ⟨0, by omega, rfl, rfl, rfl⟩
    case round =>
      obtain ⟨j, hj, rfl, rfl, hwr⟩ := hrel
      have hwr2 := hwr.symm
      subst hwr2
      clear hwr
      by_cases hlt : j < i
      · have hji : (j : Int) < (i : Int) := by omega
        have hj0 : (0 : Int) ≤ (j : Int) := by omega
        obtain ⟨p, m, h1, h2, h3⟩ := HBK.out j (by omega)
        have r0 := HCELL.out j p h3
        have r1 := block_cell h2.blk 2
        have lp := block_lt h2.blk
        have hst := lenB_take (List.getElem?_eq_getElem (l := bs) (i := j) (by omega))
        have hsl := lenB_le bs (j + 1)
        have hle := HLN.out
        have had : IntKind.i64.wrap ((lenB (bs.take j) : Int) + ((bs[j]'(by omega)).2.length : Int)) = (lenB (bs.take (j + 1)) : Int) := by
          rw [hst]
          exact (IntWalk.i64_in _ (by omega)).trans (by push_cast; rfl)
        clear h1 h2 h3 hst hsl hle
        go_wp2
        go_roundw
        case rel => exact ⟨j + 1, by omega, by go_num, by first | rfl | exact congrArg _ had, trivial⟩
        case measure => simp [intOf]; omega
      · have h5 : j = i := by omega
        subst h5
        go_wp2_with fail
        refine CD.out.mono ?_
        rintro e w2 ⟨v', rfl, hr', hU', hown'⟩
        have hpg : pb ≠ g := fun e => by
          obtain ⟨_, cur', h6⟩ := rowE_block hrow' (g := g) rfl
          rw [← e, HBLK.out] at h6
          simp only [Option.some.injEq, Obj.cells.injEq] at h6
          exact absurd h6.2.1 (by decide)
        have hpb2 := (hU'.block pb l0 (fun e => hpg (Option.some.inj e).symm)).trans HBLK.out
        obtain ⟨A', c', hv'⟩ := rowE_form hr'
        obtain ⟨n', hn'⟩ : ∃ x, x = (cutAt (ps.map (·.1)) 0 j).length := ⟨_, rfl⟩
        rw [← hn'] at hv'
        subst hv'
        have y0 := block_cell hpb2 0
        have f0 := block_frozen hpb2 0
        have l2 := block_lt hpb2
        have hset := heap_setCell_at (j := 0) (u := .slice A' n' c') hpb2
        have z0 : (w2.setCell ⟨pb, 0, none⟩ (.slice A' n' c')).cell? ⟨pb, 2, none⟩ = some (.int .i64 (lenB bs : Int)) := block_cell hset 2
        have z1 : (w2.setCell ⟨pb, 0, none⟩ (.slice A' n' c')).frozen? ⟨pb, 2, none⟩ = false := block_frozen hset 2
        have hsl := lenB_le bs j
        have hle := HLN.out
        have hwr : IntKind.i64.wrap ((lenB bs : Int) - (lenB (bs.take j) : Int)) = (lenB bs : Int) - (lenB (bs.take j) : Int) := IntWalk.i64_in _ (by omega)
        have HR' := Lib.hid hr'
        have HO' := Lib.hid hown'
        have HSET := Lib.hid hset
        have HU' := Lib.hid hU'
        have HPG := Lib.hid hpg
        clear hr' hown' hset hU' hpg hpb2 hsl hle hn'
        go_wp2
        refine bodyPost_ret (results_tmp rfl _ _ _) rfl ?_
        refine FIN.out _ _ (rowE_upd HR'.out (upd_trans (fp := fun b => b = pb) (upd_setCell (a := ⟨pb, 0, none⟩) _) (upd_setCell (a := ⟨pb, 2, none⟩) _) (fun _ _ h => h)) (fun b hb e => ?_)) HO'.out (heap_setCell_at (j := 2) (u := .int .i64 ((lenB bs : Int) - (lenB (bs.take j) : Int))) HSET.out) (upd_trans (upd_mono HU'.out (fun _ _ h => .inl h)) (upd_trans (fp := fun b => b = pb) (upd_setCell (a := ⟨pb, 0, none⟩) _) (upd_setCell (a := ⟨pb, 2, none⟩) _) (fun _ _ h => h)) (fun _ _ h => .inr h))
        rw [HO'.out] at hb
        exact HPG.out (e.symm.trans (Option.some.inj hb).symm)
end Go.Proofs.Ytojgbphmkloicaa
