/- The emitter as the laws use it; awake. -/
import Derived.Test.YteccpinilpkmiaaEl
import Derived.Test.YteccpinilpkmiaaEd
namespace Go.Proofs.Yteccpinilpkmiaa
open Go Go.RowKit Go.Sort Go.Shelf
set_option maxHeartbeats 800000

theorem new_good (k : ByteArray) (hk : knows k = true) (w : World) : Calls Try.prog 10 #[.string k] w fun e w' => ∃ p, e = .returned (.tuple #[.pointer (some ⟨p, 0, none⟩), .int .i64 0]) ∧ w.heap.size ≤ p ∧ EmAt w' p k (.slice none 0 0) ∧ Ext w w' := by
  refine (new_any k w).mono ?_
  rintro e w' ⟨hE, ⟨_, p, h1, h2, h3⟩ | ⟨h, _⟩⟩
  · exact ⟨p, h2, h1, h3, hE⟩
  · rw [hk] at h; cases h
theorem knows_R : knows kR = true := by decide
theorem knows_I : knows kI = true := by decide
theorem knows_D : knows kD = true := by decide
theorem told_R (L M : List ByteArray) : toldL kR L M = M := by rw [toldL, if_pos rfl]
theorem told_I (L M : List ByteArray) : toldL kI L M = lessR M L := by rw [toldL, if_neg kI_ne, if_pos rfl, less_eq]
theorem told_D (L M : List ByteArray) : toldL kD L M = lessR L M := by rw [toldL, if_neg kD_ne, if_neg kD_ne', if_pos rfl, less_eq]
theorem emAt_ext {w w' : World} {p : Nat} {k : ByteArray} {v : Value} (h : EmAt w p k v) (hE : Ext w w') : EmAt w' p k v := (ext_block hE (block_lt h)).trans h
theorem emAt_upd {fp : Nat → Prop} {w w' : World} {p : Nat} {k : ByteArray} {v : Value} (h : EmAt w p k v) (hu : Upd fp w w') (hp : ¬ fp p) : EmAt w' p k v := (hu.block p (block_lt h) hp).trans h
theorem lessR_nil (L : List ByteArray) : lessR [] L = [] := nil_of_cnt fun s => by rw [cnt_lessR]; simp [cnt]
theorem lessR_none (L : List ByteArray) : lessR L [] = sortR L := rfl
theorem lessR_len (L M : List ByteArray) : (lessR L M).length ≤ L.length := by rw [← less_eq, sortS_length]; exact outE_len _ _

/-- an emitter of a kind with the lines L as last result, made behind W -/
def EmOf (W w : World) (p : Nat) (k : ByteArray) (L : List ByteArray) : Prop := W.heap.size ≤ p ∧ ∃ v, EmAt w p k v ∧ rowE elS w v L ∧ ∀ b, v.ownBlock = some b → W.heap.size ≤ b
theorem emOf_ext {W w w' : World} {p : Nat} {k : ByteArray} {L : List ByteArray} (h : EmOf W w p k L) (hE : Ext w w') : EmOf W w' p k L := by
  obtain ⟨h1, v, h2, h3, h4⟩ := h
  exact ⟨h1, v, emAt_ext h2 hE, rowE_ext h3 hE, h4⟩
theorem emOf_upd {W w w' : World} {p q : Nat} {k : ByteArray} {L : List ByteArray} (h : EmOf W w p k L) (hE : Upd (fun b => b = q) w w') {k' : ByteArray} {v' : Value} (hq : EmAt w q k' v') (hne : p ≠ q) : EmOf W w' p k L := by
  obtain ⟨h1, v, h2, h3, h4⟩ := h
  exact ⟨h1, v, emAt_upd h2 hE hne, rowE_upd h3 hE (fun b e1 e2 => rowE_off h3 hq (by decide) (e1.trans (by rw [e2]))), h4⟩
theorem emOf_lt {W w : World} {p : Nat} {k : ByteArray} {L : List ByteArray} (h : EmOf W w p k L) : p < w.heap.size := by
  obtain ⟨_, v, h2, _⟩ := h
  exact block_lt h2
theorem row_next {w w' : World} {q : Nat} {k : ByteArray} {v u : Value} {L : List ByteArray} (h : rowE elS w v L) (hE : Upd (fun b => b = q) w w') (hq : EmAt w q k u) : rowE elS w' v L :=
  rowE_upd h hE (fun b e1 e2 => rowE_off h hq (by decide) (e1.trans (by rw [e2])))
theorem rdS_upd {fp : Nat → Prop} {W w w' : World} {v : Value} {L : List ByteArray} (h : RdS W v L) (hE : Ext W w) : RdS w v L := rdS_ext h hE
theorem ext_upd {q : Nat} {W w w' : World} (hE : Ext W w) (hu : Upd (fun b => b = q) w w') (hq : W.heap.size ≤ q) : Ext W w' :=
  ext_of_upd (upd_trans (upd_of_ext (fp := fun _ => False) hE) hu (fun i hi e => by subst e; omega))

def NewEm (k : ByteArray) (W w : World) (e : Ending) (w' : World) : Prop := ∃ p, e = .returned (.tuple #[.pointer (some ⟨p, 0, none⟩), .int .i64 0]) ∧ w.heap.size ≤ p ∧ EmOf W w' p k [] ∧ Ext w w'
theorem new_em (k : ByteArray) (hk : knows k = true) (W w : World) (hW : Ext W w) : Calls Try.prog 10 #[.string k] w (NewEm k W w) := by
  refine (new_good k hk w).mono ?_
  rintro e w' ⟨p, h1, h2, h3, h4⟩
  exact ⟨p, h1, h2, ⟨Nat.le_trans (ext_size hW) h2, _, h3, rowE_nil _, fun b e => by cases e⟩, h4⟩

structure NextEm (k : ByteArray) (p : Nat) (L M : List ByteArray) (W w : World) (lv : Value) (w' : World) : Prop where
  em : EmOf W w' p k (sortS M)
  row : rowF elS w.heap.size (toldL k L (sortS M)) lv w'
  upd : Upd (fun b => b = p) w w'
  ext : Ext W w'
  at0 : ∃ v, EmAt w p k v
  off : ∀ v, EmAt w' p k v → ∀ b, v.ownBlock = some b → lv.ownBlock ≠ some b
theorem next_em (p : Nat) (k : ByteArray) (vm : Value) (L M : List ByteArray) (W w : World) (h : EmOf W w p k L) (hW : Ext W w) (hM : RdS w vm M) (hl : L.length ≤ 100000) (hm : M.length ≤ 100000) (hs1 : ∀ x ∈ L, x.size ≤ maxLen) (hs2 : ∀ x ∈ M, x.size ≤ maxLen) :
    Calls Try.prog 11 #[.pointer (some ⟨p, 0, none⟩), vm] w fun e w' => ∃ lv, e = .returned lv ∧ NextEm k p L M W w lv w' := by
  obtain ⟨h1, v0, h2, h3, h4⟩ := h
  refine (next_any p k v0 vm L M w h2 h3 hM hl hm hs1 hs2).mono ?_
  rintro e w' ⟨v1, lv, rfl, a1, a2, a3, a4, a5⟩
  refine ⟨lv, rfl, ⟨⟨h1, v1, a1, a2.1, fun b e => Nat.le_trans (ext_size hW) (a2.2 b e)⟩, a3, a5, ext_upd hW a5 h1, ⟨v0, h2⟩, fun v hv b e1 => ?_⟩⟩
  have e2 : v = v1 := by
    have := hv.symm.trans a1
    simpa using this
  subst e2
  exact a4 b e1

def xS : ByteArray := { data := #[120] }
theorem one_row (W : World) (s : ByteArray) : rowE elS (W.alloc (.cells #[.string s] 9)) (.slice (some ⟨W.heap.size, 0, none⟩) 1 1) [s] := by
  refine ⟨rfl, .inr ⟨W.heap.size, 1, #[.string s], rfl, Nat.zero_le _, heap_alloc_new _ _, Nat.le_refl _, by decide, rfl, rfl⟩⟩
theorem sort_xS : sortS [xS] = [xS] := by rw [sortS_eq]; rfl
theorem xS_small : ∀ x ∈ [xS], x.size ≤ maxLen := fun x hx => by rw [List.mem_singleton.1 hx]; decide
theorem nil_small : ∀ x ∈ ([] : List ByteArray), x.size ≤ maxLen := fun x hx => by cases hx
theorem awake_any (w : World) : Calls Try.prog 8 #[] w fun e w' => e = .returned (.bool true) ∧ Ext w w' := by
  go_enter Try.func8, Try.ntmps8
  go_wp2_with (first | (have _h := HP1.out; go_at_call 10; refine (new_em _ knows_I w _ HE1.out).mono ?_; rintro e w2 ⟨p2, rfl, hp2, hem2, hE2⟩; have HP2 := Lib.hid hp2; have HEM2 := Lib.hid hem2; have HE2 := Lib.hid hE2; clear hp2 hem2 hE2) | (go_at_call 10; refine (new_em _ knows_D w _ (ext_refl _)).mono ?_; rintro e w1 ⟨p1, rfl, hp1, hem1, hE1⟩; have HP1 := Lib.hid hp1; have HEM1 := Lib.hid hem1; have HE1 := Lib.hid hE1; clear hp1 hem1 hE1))
  have hE3 : Ext w2 (w2.alloc (.cells #[.string { data := #[120] }] 9)) := ext_alloc (ext_refl _) _
  refine (next_em p1 kD _ [] [xS] w _ (emOf_ext (emOf_ext HEM1.out HE2.out) hE3) (ext_trans (ext_trans HE1.out HE2.out) hE3) (rdS_row (one_row _ _)) (by simp) (by simp) nil_small xS_small).mono ?_
  rintro e w3 ⟨lv, rfl, hN⟩
  have hrow := hN.row
  rw [told_D, lessR_nil] at hrow
  obtain ⟨A, c, rfl⟩ := rowE_form hrow.1
  have HN := Lib.hid hN
  have HE3 := Lib.hid hE3
  clear hN hrow hE3
  have hne : p2 ≠ p1 := by have := emOf_lt HEM1.out; have := HP2.out; omega
  have hem3 : EmOf w w3 p2 kI [] := by
    obtain ⟨v0, h0⟩ := HN.out.at0
    exact emOf_upd (emOf_ext HEM2.out HE3.out) HN.out.upd h0 hne
  have HEM3 := Lib.hid hem3
  clear hem3 hne
  go_wp2_with fail
  have hE4 : Ext w3 (w3.alloc (.cells #[.string { data := #[120] }] 9)) := ext_alloc (ext_refl _) _
  refine (next_em p2 kI _ [] [xS] w _ (emOf_ext HEM3.out hE4) (ext_trans HN.out.ext hE4) (rdS_row (one_row _ _)) (by simp) (by simp) nil_small xS_small).mono ?_
  rintro e w4 ⟨lv, rfl, hN2⟩
  have hrow := hN2.row
  rw [told_I, lessR_none, sort_xS, show sortR [xS] = [xS] from rfl] at hrow
  obtain ⟨A2, c2, rfl⟩ := rowE_form hrow.1
  have HN2 := Lib.hid hN2
  clear hN2 hrow hE4
  go_wp2
  refine bodyPost_ret (results_tmp rfl _ _ _) rfl ?_
  exact ⟨rfl, HN2.out.ext⟩
end Go.Proofs.Yteccpinilpkmiaa
