/- Texts joined: Hg Hi Hk Hj Hl. -/
import Derived.Test.YtiabmdboacpmcaaY20
import Derived.Shelf.SlMaps.Clone
/- The visits close; a forest half way through an Add. -/
namespace Go.Proofs.Ytiabmdboacpmcaa
open Go Go.RowKit Go.Sort Go.WideMaps Go.Maps
set_option maxHeartbeats 4000000

theorem keep_all (c : Env) (G : GoodE c) (W0 : World) (m b en : Nat) (mv : List Mv) (M : MachF c W0 m b en mv) (n : Nat) : KeepAt c n := by
  induction n using Nat.strongRecOn with
  | ind n ih => exact keep_any c G n (fun j hj => along_any c G j (lead_any c G W0 m b en mv M j (ih j hj)))
theorem along_all (c : Env) (G : GoodE c) (W0 : World) (m b en : Nat) (mv : List Mv) (M : MachF c W0 m b en mv) (n : Nat) : AlongAt c n := along_any c G n (lead_any c G W0 m b en mv M n (keep_all c G W0 m b en mv M n))
/-- a forest whose nodes' edges are any -/
structure MidH (w0 : World) (L : Loc) (room h : Int) (E : Gr3) (S : Int → Option Nat) (sub : Int → Key → Option Bool) (F : Nat → Prop) (w : World) : Prop where
  blk : w.heap[L.pf]? = some (.cells #[ptr L.pm, .int .i64 room, .int .i64 h, .map (some L.be), .map (some L.bo), .map (some L.bb)] 122 (0, 0))
  edges : ∃ N, MapE L.be N E w
  out : ∃ N, MapO L.bo N (fun n => (S n).map some) w
  sub : ∀ n b, S n = some b → ∃ N, MapS b N (sub n) w
  ne : L.be ≠ L.bo ∧ L.be ≠ L.bb ∧ L.bo ≠ L.bb
  sne : ∀ n b, S n = some b → b ≠ L.be ∧ b ≠ L.bo ∧ b ≠ L.bb
  sinj : ∀ n n' b, S n = some b → S n' = some b → n = n'
  low : w0.heap.size ≤ L.pf ∧ w0.heap.size ≤ L.be ∧ w0.heap.size ≤ L.bo ∧ w0.heap.size ≤ L.bb ∧ ∀ n b, S n = some b → w0.heap.size ≤ b
  ext : Ext w0 w
  own : F L.pf ∧ F L.be ∧ F L.bo ∧ F L.bb ∧ ∀ n b, S n = some b → F b
theorem mid_upd {w0 w w' : World} {L : Loc} {room h : Int} {E : Gr3} {S : Int → Option Nat} {sub : Int → Key → Option Bool} {F : Nat → Prop} {fp : Nat → Prop} (H : MidH w0 L room h E S sub F w) (hU : Upd fp w w') (hn : ∀ b, F b ∨ b < w0.heap.size → ¬ fp b) : MidH w0 L room h E S sub F w' := by
  obtain ⟨N, h1⟩ := H.edges
  obtain ⟨M, h2⟩ := H.out
  obtain ⟨o1, o2, o3, o4, o5⟩ := H.own
  exact ⟨(hU.block _ (block_lt H.blk) (hn _ (.inl o1))).trans H.blk, ⟨N, mapG_upd h1 hU (hn _ (.inl o2))⟩, ⟨M, mapG_upd h2 hU (hn _ (.inl o3))⟩, fun n b hb => by obtain ⟨N, h3⟩ := H.sub n b hb; exact ⟨N, mapG_upd h3 hU (hn _ (.inl (o5 n b hb)))⟩, H.ne, H.sne, H.sinj, H.low, ext_of_upd (upd_trans (upd_of_ext H.ext) hU (fun i hi e => absurd e (hn i (.inr hi)))), H.own⟩
theorem midH_ext {w0 w w' : World} {L : Loc} {room h : Int} {E : Gr3} {S : Int → Option Nat} {sub : Int → Key → Option Bool} {F : Nat → Prop} (H : MidH w0 L room h E S sub F w) (hE : Ext w w') : MidH w0 L room h E S sub F w' := mid_upd H (upd_of_ext (fp := fun _ => False) hE) (fun _ _ h => h)
theorem mid_own {w0 w : World} {L : Loc} {room h : Int} {E : Gr3} {S : Int → Option Nat} {sub : Int → Key → Option Bool} {F F' : Nat → Prop} (H : MidH w0 L room h E S sub F w) (hbb : L.bb < w.heap.size) (hF : ∀ b, b < w.heap.size → F b → F' b) : MidH w0 L room h E S sub F' w := by
  obtain ⟨N, h1⟩ := H.edges
  obtain ⟨M, h2⟩ := H.out
  obtain ⟨o1, o2, o3, o4, o5⟩ := H.own
  refine ⟨H.blk, H.edges, H.out, H.sub, H.ne, H.sne, H.sinj, H.low, H.ext, hF _ (block_lt H.blk) o1, hF _ (mapG_lt h1) o2, hF _ (mapG_lt h2) o3, hF _ hbb o4, fun n b hb => ?_⟩
  · obtain ⟨N, h3⟩ := H.sub n b hb
    exact hF _ (mapG_lt h3) (o5 n b hb)
theorem mapG_le {P : Program} {k e : TypeId} {α β : Type} [DecidableEq α] {K : KT P k α} {E : ET P e β} {b N : Nat} {f : α → Option β} {w : World} {M : List α} (h : MapG K E b N f w) (hM : ∀ x, (f x).isSome = true → x ∈ M) : N ≤ M.length := by
  obtain ⟨X, h1, h2, h3⟩ := mapG_keys h
  rw [← h3]
  clear h h3
  have : ∀ {L M : List α}, L.Nodup → (∀ x ∈ L, x ∈ M) → L.length ≤ M.length := by
    intro L
    induction L with
    | nil => intro M _ _; exact Nat.zero_le _
    | cons x L ih =>
      intro M hL h
      obtain ⟨h1, h2⟩ := List.nodup_cons.1 hL
      have hx := h x (List.mem_cons_self ..)
      have := ih (M := M.erase x) h2 (fun y hy => (List.mem_erase_of_ne (a := y) (b := x) (fun (e : y = x) => h1 (by rw [← e]; exact hy))).2 (h y (List.mem_cons_of_mem _ hy)))
      rw [List.length_erase_of_mem hx] at this
      have := List.length_pos_of_mem hx
      rw [List.length_cons]
      omega
  exact this h1 (fun x hx => hM x ((h2 x).1 hx))
theorem eql_nil (b : Option Nat) (w : World) : (binOp .eql 128 (.map b) (.map none)).run Try.prog w = .ok (.bool b.isNone) w := run_eql_map_nil_sl w _ _ _ b Try.underlying128
end Go.Proofs.Ytiabmdboacpmcaa
/- node: a node lets be one. -/
namespace Go.Proofs.Ytiabmdboacpmcaa
open Go Go.RowKit Go.Sort Go.WideMaps Go.Maps
set_option maxHeartbeats 4000000

theorem mid_best {w0 w w' : World} {L : Loc} {room h : Int} {E : Gr3} {S : Int → Option Nat} {sub : Int → Key → Option Bool} {F : Nat → Prop} (H : MidH w0 L room h E S sub F w) (hbb : ∃ N f, MapP L.bb N f w) (hU : Upd (fun b => b = L.bb) w w') : MidH w0 L room h E S sub F w' := by
  obtain ⟨N, h1⟩ := H.edges
  obtain ⟨M, h2⟩ := H.out
  obtain ⟨K, f, h3⟩ := hbb
  have hpf : L.pf ≠ L.bb := mapG_off h3 H.blk
  refine ⟨(hU.block _ (block_lt H.blk) hpf).trans H.blk, ⟨N, mapG_upd h1 hU H.ne.2.1⟩, ⟨M, mapG_upd h2 hU H.ne.2.2⟩, fun n b hb => ?_, H.ne, H.sne, H.sinj, H.low, ?_, H.own⟩
  · obtain ⟨N, h3⟩ := H.sub n b hb
    exact ⟨N, mapG_upd h3 hU (H.sne n b hb).2.2⟩
  · exact ext_of_upd (upd_trans (upd_of_ext H.ext) hU (fun i hi e => by have e' : i = L.bb := e; have := H.low.2.2.2.1; omega))
/-- a node's places, the first of them laid -/
def newB (f : Bst) (n : Int) (N : List Nat) : Bst := fun y => if y.a = n ∧ y.b = n ∧ ∃ s ∈ N, y.c = (s : Int) then some forever else f y
theorem newB_nil (f : Bst) (n : Int) : newB f n [] = f := by
  funext y
  unfold newB
  rw [if_neg (by simp)]
theorem newB_snoc (f : Bst) (n : Int) (N : List Nat) (s : Nat) : newB f n (N ++ [s]) = putB (newB f n N) ⟨n, n, (s : Int)⟩ forever := by
  funext y
  unfold newB putB
  by_cases e : y = ⟨n, n, (s : Int)⟩
  · subst e
    rw [if_pos rfl, if_pos ⟨rfl, rfl, s, by simp, rfl⟩]
  · rw [if_neg e]
    show _ = (if y.a = n ∧ y.b = n ∧ ∃ s' ∈ N, y.c = (s' : Int) then some forever else f y)
    by_cases h : y.a = n ∧ y.b = n ∧ ∃ s' ∈ N, y.c = (s' : Int)
    · rw [if_pos h, if_pos ⟨h.1, h.2.1, by obtain ⟨s', h1, h2⟩ := h.2.2; exact ⟨s', List.mem_append_left _ h1, h2⟩⟩]
    · rw [if_neg h, if_neg]
      rintro ⟨h1, h2, s', h3, h4⟩
      rcases List.mem_append.1 h3 with h5 | h5
      · exact h ⟨h1, h2, s', h5, h4⟩
      · rw [List.mem_singleton.1 h5] at h4
        obtain ⟨a, b, c⟩ := y
        simp only at h1 h2 h4
        exact e (by rw [h1, h2, h4])
theorem newB_dom {f : Bst} {n : Int} {N : List Nat} {Ps : List Key} (h : ∀ y, (f y).isSome = true → y ∈ Ps) : ∀ y, (newB f n N y).isSome = true → y ∈ Ps ++ N.map fun s : Nat => (⟨n, n, (s : Int)⟩ : Key) := fun y hy => by
  unfold newB at hy
  split at hy
  · rename_i hc
    obtain ⟨h1, h2, s, h3, h4⟩ := hc
    refine List.mem_append_right _ (List.mem_map.2 ⟨s, h3, ?_⟩)
    obtain ⟨a, b, c⟩ := y
    simp only at h1 h2 h4
    rw [h1, h2, h4]
  · exact List.mem_append_left _ (h y hy)
/-- what node leaves -/
structure NodeTo (mv : List Mv) (b : Nat) (n : Int) (S S' : Int → Option Nat) (sub sub' : Int → Key → Option Bool) (f f' : Bst) : Prop where
  oth : ∀ x, x ≠ n → S' x = S x
  has : (S' n).isSome = true
  sub : ∀ x, (x ≠ n ∨ (S n).isSome = true) → sub' x = sub x
  new : S n = none → sub' n = fun _ => none
  old : (S n).isSome = true → f' = f ∧ S' = S
  put : S n = none → ∀ y, y.a = n → y.b = n → (autoM mv b).begin' y.c → f' y = some forever
  keep : S n = none → ∀ y, ¬ (y.a = n ∧ y.b = n ∧ (autoM mv b).begin' y.c) → f' y = f y
def NodePost (w0 : World) (L : Loc) (room h : Int) (E : Gr3) (S : Int → Option Nat) (sub : Int → Key → Option Bool) (F : Nat → Prop) (mv : List Mv) (b : Nat) (n : Int) (f : Bst) (w : World) (e : Ending) (w' : World) : Prop :=
  e = .returned (.tuple #[]) ∧ ∃ S' sub' f', MidH w0 L room h E S' sub' (fun b => F b ∨ w.heap.size ≤ b) w' ∧ Best L f' w' ∧ NodeTo mv b n S S' sub sub' f f' ∧ Upd F w w'
theorem node_old (w0 : World) (L : Loc) (room h : Int) (E : Gr3) (S : Int → Option Nat) (sub : Int → Key → Option Bool) (F : Nat → Prop) (mv : List Mv) (b : Nat) (n : Int) (f : Bst) (w : World)
    (H : MidH w0 L room h E S sub F w) (hb : Best L f w) (hn : okI n) (hs : (S n).isSome = true) : Calls Try.prog 71 #[ptr L.pf, .int .i64 n] w (NodePost w0 L room h E S sub F mv b n f w) := by
  obtain ⟨sb, hsb⟩ := Option.isSome_iff_exists.1 hs
  obtain ⟨NO, hO⟩ := H.out
  have hlk : (Instr.lookup 119 (.map (some L.bo)) (.int .i64 n) false).run Try.prog w = .ok (.map (some sb)) w := by
    have h3 := look_G Try.underlying119 hO (x := n) hn
    rw [hsb] at h3
    exact h3
  have heq := fun w => eql_nil (some sb) w
  have q4 := block_cell H.blk 4
  have l0 := block_lt H.blk
  have HF := Lib.hid (show NodePost w0 L room h E S sub F mv b n f w (.returned (.tuple #[])) w from ⟨rfl, S, sub, f, mid_own H (by obtain ⟨N, hN⟩ := hb; exact mapG_lt hN) (fun _ _ h => .inl h), hb, ⟨fun _ _ => rfl, hs, fun _ _ => rfl, (fun e => by rw [hsb] at e; cases e), fun _ => ⟨rfl, rfl⟩, (fun e => by rw [hsb] at e; cases e), (fun e => by rw [hsb] at e; cases e)⟩, upd_refl⟩)
  clear H hb hs hO hsb
  go_enter Try.func71, Try.ntmps71
  go_wp2
  go_end0
  exact HF.out
set_option maxRecDepth 100000 in
theorem node_new (w0 W0 : World) (L : Loc) (room h : Int) (E : Gr3) (S : Int → Option Nat) (sub : Int → Key → Option Bool) (F : Nat → Prop) (m b en : Nat) (mv : List Mv) (n : Int) (f : Bst) (w : World) (Ns : List Int) (Ps : List Key)
    (H : MidH w0 L room h E S sub F w) (hM : Mach W0 L.pm m b (en : Int) mv w0) (hb : Best L f w) (hn : okI n) (hs : S n = none) (hNs : ∀ x, (S x).isSome = true → x ∈ Ns) (hNl : Ns.length ≤ 100000) (hPs : ∀ y, (f y).isSome = true → y ∈ Ps) (hPl : Ps.length ≤ 100000000)
    (hf : ∀ s, f ⟨n, n, s⟩ = none) : Calls Try.prog 71 #[ptr L.pf, .int .i64 n] w (NodePost w0 L room h E S sub F mv b n f w) := by
  obtain ⟨NO, hO⟩ := H.out
  have hNO : NO ≤ 100000 := Nat.le_trans (mapG_le (M := Ns) hO (fun x hx => hNs x (by simpa using hx))) hNl
  have hlk : (Instr.lookup 119 (.map (some L.bo)) (.int .i64 n) false).run Try.prog w = .ok (.map none) w := by
    have h3 := look_G Try.underlying119 hO (x := n) hn
    rw [hs] at h3
    exact h3
  have heq := fun w => eql_nil none w
  have hmm := @run_makeMap Try.prog
  obtain ⟨nb, hnb⟩ : ∃ nb, nb = w.heap.size := ⟨_, rfl⟩
  obtain ⟨w1, hw1⟩ : ∃ w1, w1 = w.alloc (.map #[] 0) := ⟨_, rfl⟩
  have hE1 : Ext w w1 := by rw [hw1]; exact ext_alloc (ext_refl _) _
  obtain ⟨w2, hup, hO2, hg2⟩ := store_G (t := 119) Try.underlying119 (mapG_ext hO hE1) (by unfold maxLen; omega) (x := n) hn (c := some nb) trivial
  have hup' : (Instr.mapUpdate 119 (.map (some L.bo)) (.int .i64 n) (.map (some w.heap.size))).run Try.prog (w.alloc (.map #[] 0)) = .ok () w2 := by
    rw [← hw1, ← hnb]
    exact hup
  have hU2 := upd_grown hg2
  have hbb : L.bb < w.heap.size := by obtain ⟨N, hN⟩ := hb; exact mapG_lt hN
  have hbo : L.bo < w.heap.size := mapG_lt hO
  -- the forest with the new node
  have hS1 : MidH w0 L room h E (fun x => if x = n then some nb else S x) (fun x => if x = n then fun _ => none else sub x) (fun b => F b ∨ w.heap.size ≤ b) w2 := by
    have HO := mid_own (midH_ext H hE1) (by exact Nat.lt_of_lt_of_le hbb (ext_size hE1)) (F' := fun b => F b ∨ w.heap.size ≤ b) (fun _ _ h => .inl h)
    obtain ⟨NE, hNE⟩ := HO.edges
    have hpf : L.pf ≠ L.bo := mapG_off (mapG_ext hO hE1) HO.blk
    refine ⟨(hU2.block _ (block_lt HO.blk) (fun e => hpf (Option.some.inj e).symm)).trans HO.blk, ⟨NE, mapG_upd hNE hU2 (fun e => H.ne.1 (Option.some.inj e).symm)⟩, ⟨_, mapG_congr hO2 (fun x => by by_cases e : x = n <;> simp [e]) rfl⟩, fun x c hx => ?_, H.ne, fun x c hx => ?_, fun x x' c hx hx' => ?_, ⟨H.low.1, H.low.2.1, H.low.2.2.1, H.low.2.2.2.1, fun x c hx => ?_⟩, ?_, ⟨HO.own.1, HO.own.2.1, HO.own.2.2.1, HO.own.2.2.2.1, fun x c hx => ?_⟩⟩
    · replace hx := (show (if x = n then some nb else S x) = some c from hx)
      by_cases e : x = n
      · subst e
        rw [if_pos rfl] at hx
        cases hx
        refine ⟨0, ?_⟩
        simp only [if_pos]
        have h5 := mapG_made kK eB w
        rw [← hw1, ← hnb] at h5
        exact mapG_upd h5 hU2 (fun e => by have := Option.some.inj e; omega)
      · rw [if_neg e] at hx
        obtain ⟨N, hN⟩ := HO.sub x c hx
        refine ⟨N, ?_⟩
        simp only [if_neg e]
        exact mapG_upd hN hU2 (fun e => (H.sne x c hx).2.1 (Option.some.inj e).symm)
    · replace hx := (show (if x = n then some nb else S x) = some c from hx)
      by_cases e : x = n
      · rw [if_pos e] at hx
        cases hx
        obtain ⟨N, hN⟩ := H.edges
        have := mapG_lt hN
        omega
      · rw [if_neg e] at hx
        exact H.sne x c hx
    · replace hx := (show (if x = n then some nb else S x) = some c from hx)
      replace hx' := (show (if x' = n then some nb else S x') = some c from hx')
      have hlt : ∀ x c, S x = some c → c < w.heap.size := fun x c hx => by
        obtain ⟨N, hN⟩ := H.sub x c hx
        exact mapG_lt hN
      by_cases e : x = n
      · by_cases e' : x' = n
        · rw [e, e']
        · rw [if_pos e] at hx
          rw [if_neg e'] at hx'
          cases hx
          have := hlt x' _ hx'
          omega
      · by_cases e' : x' = n
        · rw [if_neg e] at hx
          rw [if_pos e'] at hx'
          cases hx'
          have := hlt x _ hx
          omega
        · rw [if_neg e] at hx
          rw [if_neg e'] at hx'
          exact H.sinj x x' c hx hx'
    · replace hx := (show (if x = n then some nb else S x) = some c from hx)
      by_cases e : x = n
      · rw [if_pos e] at hx
        cases hx
        have := ext_size H.ext
        omega
      · rw [if_neg e] at hx
        exact H.low.2.2.2.2 x c hx
    · exact ext_of_upd (upd_trans (upd_of_ext HO.ext) hU2 (fun i hi e => absurd hi (by have h5 := Option.some.inj e; have := H.low.2.2.1; omega)))
    · replace hx := (show (if x = n then some nb else S x) = some c from hx)
      by_cases e : x = n
      · rw [if_pos e] at hx
        cases hx
        exact .inr (by omega)
      · rw [if_neg e] at hx
        exact .inl (H.own.2.2.2.2 x c hx)
  have hB2 : Best L f w2 := by
    obtain ⟨N, hN⟩ := hb
    exact ⟨N, mapG_upd (mapG_ext hN hE1) hU2 (fun e => H.ne.2.2 (Option.some.inj e))⟩
  have HU2 := Lib.hid (show Upd F w w2 from upd_trans (upd_of_ext hE1) hU2 (fun i hi e => by rw [← Option.some.inj e]; exact H.own.2.2.1))
  have HS1 := Lib.hid hS1
  have HB2 := Lib.hid hB2
  have HM2 := Lib.hid (mach_ext hM hS1.ext)
  have HH := Lib.hid H
  have HF := Lib.hid hf
  have HSN := Lib.hid hs
  have HPS := Lib.hid hPs
  have HNB := Lib.hid hnb
  have HNO := Lib.hid hn
  have HDST := Lib.hid hM.dst
  have hmb : m ≤ 1000 := hM.hm
  have HLTB := Lib.hid hM.lt
  have q4 := block_cell H.blk 4
  have l0 := block_lt H.blk
  have q0' := block_cell hS1.blk 0
  have l0' := block_lt hS1.blk
  have q4' : (w.alloc (.map #[] 0)).cell? ⟨L.pf, 4, none⟩ = some (.map (some L.bo)) := by rw [← hw1]; exact block_cell ((ext_block hE1 (block_lt H.blk)).trans H.blk) 4
  clear H hM hb hs hf hO hup hO2 hg2 hU2 hS1 hB2 hn hnb hPs hNs hE1 hw1
  go_enter Try.func71, Try.ntmps71
  go_wp2_with fail
  refine (begin_any W0 w2 L.pm m b (en : Int) mv HM2.out).mono ?_
  rintro e w3 ⟨A3, cp3, N, rfl, hr3, hn3, hE3⟩
  have hnl : N.length ≤ m := rise_le hn3.1 (fun s hs => way_lt HDST.out HLTB.out ((hn3.2 s).1 hs))
  obtain ⟨nn, hnn⟩ : ∃ k, k = N.length := ⟨_, rfl⟩
  rw [← hnn] at hnl ⊢
  have HNN := Lib.hid hnn
  have HN3 := Lib.hid hn3
  have HR3 := Lib.hid hr3.1
  have HE3 := Lib.hid hE3
  have HS3 := Lib.hid (midH_ext HS1.out hE3)
  have HB3 := Lib.hid (show Best L (newB f n (N.take 0)) w3 by rw [List.take_zero, newB_nil]; exact best_ext HB2.out hE3)
  clear hn3 hr3 hE3 hnn q4 l0 q0' l0' q4' hup' hmm heq hlk
  go_wp2
  go_loopw [25] (fun y wr => ∃ j : Nat, j ≤ nn ∧ y = .int .i64 (j : Int) ∧ Best L (newB f n (N.take j)) wr ∧ Upd (fun b => b = L.bb) w3 wr) (fun y _ => nn - (intOf y).toNat)
  case atStart => exact ⟨0, by omega, rfl, HB3.out, upd_refl⟩
  case round =>
    rename World => wi
    obtain ⟨j, hj, rfl, hbg, hU⟩ := hrel
    have HBG := Lib.hid hbg
    have HU := Lib.hid hU
    have hmi : MidH w0 L room h E (fun x => if x = n then some nb else S x) (fun x => if x = n then fun _ => none else sub x) (fun b => F b ∨ w.heap.size ≤ b) wi := mid_best HS3.out (by obtain ⟨N', hN'⟩ := HB3.out; exact ⟨N', _, hN'⟩) hU
    have HMI := Lib.hid hmi
    by_cases hlt : j < nn
    · have hji : (j : Int) < (nn : Int) := by omega
      have hj0 : (0 : Int) ≤ (j : Int) := by omega
      obtain ⟨s, hs⟩ : ∃ s, N[j]? = some s := ⟨_, List.getElem?_eq_getElem (by rw [← HNN.out]; exact hlt)⟩
      obtain ⟨g3, hg3, lg3⟩ := rowE_some HR3.out (fun e => by rw [e] at hs; simp at hs)
      subst hg3
      obtain ⟨_, cur3, hc3⟩ := rowE_block HR3.out (g := g3) rfl
      have hgb : g3 ≠ L.bb := by obtain ⟨N', hN'⟩ := HB3.out; exact mapG_off hN' hc3
      have s0 : wi.cell? ⟨g3, j, none⟩ = some (.int .i64 (s : Int)) := (upd_cell hU lg3 hgb j).trans (rowN_cell HR3.out hs)
      have lg : g3 < wi.heap.size := Nat.lt_of_lt_of_le lg3 hU.size
      have hsm : s < m := way_lt HDST.out HLTB.out ((HN3.out.2 s).1 (List.mem_of_getElem? hs))
      obtain ⟨NB, hNB⟩ := hbg
      have hNBl : NB ≤ 100001000 := by
        have h5 := mapG_le hNB (newB_dom (n := n) (N := N.take j) HPS.out)
        rw [List.length_append, List.length_map, List.length_take] at h5
        omega
      have hnot : ¬ geO (newB f n (N.take j) ⟨n, n, (s : Int)⟩) forever := by
        rintro ⟨v, hv, -⟩
        unfold newB at hv
        split at hv
        · rename_i hc
          obtain ⟨_, _, s', hs', he⟩ := hc
          have he' : s = s' := by simp only at he; omega
          subst he'
          obtain ⟨i, hi⟩ := List.getElem?_of_mem hs'
          rw [List.getElem?_take] at hi
          split at hi
          · rename_i hij
            have hi' := List.getElem?_eq_some_iff.1 hi
            have hs2 := List.getElem?_eq_some_iff.1 hs
            have := List.pairwise_iff_getElem.1 HN3.out.1 i j hi'.1 hs2.1 hij
            rw [hi'.2, hs2.2] at this
            omega
          · cases hi
        · rw [HF.out] at hv; cases hv
      have hbbl : L.bb < wi.heap.size := mapG_lt hNB
      obtain ⟨NW, hNW⟩ := hmi.sub n nb (if_pos rfl)
      have hcall := keep_walk L room h (fun x => if x = n then some nb else S x) ⟨n, n, (s : Int)⟩ forever (newB f n (N.take j)) (fun _ => none) nb NB wi
        (fun done w1 => done = [] ∧ ∃ N', MapP L.bb N' (putB (newB f n (N.take j)) ⟨n, n, (s : Int)⟩ forever) w1)
        hmi.blk hmi.out (if_pos rfl) ⟨NW, by simpa only [if_pos] using hNW⟩ hNB (by omega) ⟨hmi.ne.2.2, (hmi.sne n nb (if_pos rfl)).2.2⟩ ⟨HNO.out, HNO.out, (show okI (s : Int) from okI_iff.2 (by omega))⟩ (okI_iff.2 (by decide))
        (fun _ w1 hU1 hP1 => ⟨rfl, hP1⟩) (fun done w1 w2 r hJ hr hU' => by
          obtain ⟨h5, N', h6⟩ := hJ
          exact ⟨h5, N', mapG_upd h6 hU' (fun e => by have e' : L.bb = r := e; omega)⟩) (fun _ k done w1 hfk => by cases hfk)
      have HCALL := Lib.hid hcall
      have HNOT := Lib.hid hnot
      have HSJ := Lib.hid hs
      clear hU hs hc3 hgb hcall hnot hmi hNB hNW hNBl hbbl
      go_wp2_with fail
      refine HCALL.out.mono ?_
      rintro e w4 ⟨rfl, hres⟩
      have hb4 : Best L (newB f n (N.take (j + 1))) w4 ∧ Upd (fun b => b = L.bb) wi w4 := by
        rcases hres with ⟨hg, _⟩ | ⟨_, done, _, ⟨_, hP⟩, hU4⟩
        · exact absurd hg HNOT.out
        · rw [List.take_add_one, HSJ.out, Option.toList_some, newB_snoc]
          exact ⟨hP, hU4⟩
      have HB4 := Lib.hid hb4.1
      have HU4 := Lib.hid (upd_trans HU.out hb4.2 (fun _ _ h => h))
      clear hres hb4 s0 lg
      go_wp2
      go_roundw
      case rel => exact ⟨j + 1, by omega, by go_num, HB4.out, HU4.out⟩
      case measure => simp [intOf]; omega
    · have h5 : j = nn := by omega
      subst h5
      clear hU hbg hmi
      go_wp2
      go_end0
      have hnall : N.take j = N := by rw [HNN.out, List.take_length]
      have hbf := HBG.out
      rw [hnall] at hbf
      refine ⟨rfl, _, _, _, HMI.out, hbf, ⟨fun x hx => if_neg hx, by simp, fun x hx => ?_, fun _ => if_pos rfl, (fun e => by rw [HSN.out] at e; cases e), fun _ y h1 h2 h3 => ?_, fun _ y hy => ?_⟩, upd_trans HU2.out (upd_trans (upd_of_ext HE3.out) HU.out (fun _ _ h => h)) (fun i hi e => ?_)⟩
      · rcases hx with hx | hx
        · exact if_neg hx
        · rw [HSN.out] at hx; cases hx
      · obtain ⟨i, h4, h6⟩ := h3
        unfold newB
        rw [if_pos ⟨h1, h2, i, (HN3.out.2 i).2 h6, h4⟩]
      · unfold newB
        rw [if_neg]
        rintro ⟨h1, h2, s, h3, h4⟩
        exact hy ⟨h1, h2, s, h4, (HN3.out.2 s).1 h3⟩
      · have e' : i = L.bb := e
        rw [e']
        exact HH.out.own.2.2.2.1
end Go.Proofs.Ytiabmdboacpmcaa
/- right, ends; places and times enough. -/
namespace Go.Proofs.Ytiabmdboacpmcaa
open Go Go.RowKit Go.Sort Go.WideMaps Go.Maps
set_option maxHeartbeats 4000000

def rightB (k : Key) (u : Int) : Bool := decide (0 ≤ k.a) && decide (0 ≤ k.b) && decide (0 ≤ k.c) && decide (-2305843009213693952 ≤ u) && decide (u ≤ 4611686018427387904)
theorem rightB_iff {k : Key} {u : Int} : rightB k u = true ↔ 0 ≤ k.a ∧ 0 ≤ k.b ∧ 0 ≤ k.c ∧ -2305843009213693952 ≤ u ∧ u ≤ forever := by
  unfold rightB forever
  simp only [Bool.and_eq_true, decide_eq_true_eq]
  omega
theorem right_any (k : Key) (u : Int) (w : World) : Calls Try.prog 69 #[k3 k, .int .i64 u] w fun e w' => e = .returned (.bool (rightB k u)) ∧ Ext w w' := by
  obtain ⟨ka, kb, kc⟩ := k
  have HE := Lib.hid (ext_alloc (ext_refl w) (.cells #[.int .i64 ka, .int .i64 kb, .int .i64 kc] 85))
  obtain ⟨r, hr⟩ : ∃ r, r = rightB ⟨ka, kb, kc⟩ u := ⟨_, rfl⟩
  have HR := Lib.hid (show r = (decide (0 ≤ ka) && decide (0 ≤ kb) && decide (0 ≤ kc) && decide (-2305843009213693952 ≤ u) && decide (u ≤ 4611686018427387904)) from hr)
  rw [← hr]
  clear hr
  simp only [k3]
  go_enter Try.func69, Try.ntmps69
  by_cases h1 : 0 ≤ ka
  · have e1 : decide (0 ≤ ka) = true := decide_eq_true h1
    by_cases h2 : 0 ≤ kb
    · have e2 : decide (0 ≤ kb) = true := decide_eq_true h2
      by_cases h3 : 0 ≤ kc
      · have e3 : decide (0 ≤ kc) = true := decide_eq_true h3
        by_cases h4 : -2305843009213693952 ≤ u
        · have e4 : decide (-2305843009213693952 ≤ u) = true := decide_eq_true h4
          by_cases h5 : u ≤ 4611686018427387904
          · have e5 : decide (u ≤ 4611686018427387904) = true := decide_eq_true h5
            have HRR := Lib.hid (show r = true by rw [HR.out, e1, e2, e3, e4, e5]; rfl)
            clear HR
            go_wp2
            refine bodyPost_ret (results_tmp rfl _ _ _) rfl ?_
            exact ⟨by rw [HRR.out]; rfl, HE.out⟩
          · have e5 : decide (u ≤ 4611686018427387904) = false := decide_eq_false h5
            have HRR := Lib.hid (show r = false by rw [HR.out, e5, Bool.and_false])
            clear HR
            go_wp2
            refine bodyPost_ret (results_tmp rfl _ _ _) rfl ?_
            exact ⟨by rw [HRR.out]; rfl, HE.out⟩
        · have e4 : decide (-2305843009213693952 ≤ u) = false := decide_eq_false h4
          have HRR := Lib.hid (show r = false by rw [HR.out, e4, Bool.and_false, Bool.false_and])
          clear HR
          go_wp2
          refine bodyPost_ret (results_tmp rfl _ _ _) rfl ?_
          exact ⟨by rw [HRR.out]; rfl, HE.out⟩
      · have e3 : decide (0 ≤ kc) = false := decide_eq_false h3
        have HRR := Lib.hid (show r = false by rw [HR.out, e3]; simp)
        clear HR
        go_wp2
        refine bodyPost_ret (results_tmp rfl _ _ _) rfl ?_
        exact ⟨by rw [HRR.out]; rfl, HE.out⟩
    · have e2 : decide (0 ≤ kb) = false := decide_eq_false h2
      have HRR := Lib.hid (show r = false by rw [HR.out, e2]; simp)
      clear HR
      go_wp2
      refine bodyPost_ret (results_tmp rfl _ _ _) rfl ?_
      exact ⟨by rw [HRR.out]; rfl, HE.out⟩
  · have e1 : decide (0 ≤ ka) = false := decide_eq_false h1
    have HRR := Lib.hid (show r = false by rw [HR.out, e1]; simp)
    clear HR
    go_wp2
    refine bodyPost_ret (results_tmp rfl _ _ _) rfl ?_
    exact ⟨by rw [HRR.out]; rfl, HE.out⟩
theorem ends_any (k : Key) (w : World) : Calls Try.prog 70 #[k3 k] w fun e w' => e = .returned (.agg #[.int .i64 k.a, .int .i64 k.c]) ∧ Ext w w' := by
  have HE := Lib.hid (ext_alloc (ext_alloc (ext_refl w) (.cells #[.int .i64 k.a, .int .i64 k.b, .int .i64 k.c] 85)) (.cells #[.int .i64 k.a, .int .i64 k.c] 78))
  simp only [k3]
  go_enter Try.func70, Try.ntmps70
  go_wp2
  refine bodyPost_ret (v := .agg #[.int .i64 k.a, .int .i64 k.c]) (by simp [results, Try.results70, go_sem]) rfl ?_
  exact ⟨rfl, HE.out⟩
theorem places_of (E : Gr3) (m : Nat) (ks : List Key) (hm : m ≤ 1000) (hks : ∀ k, (E k).isSome = true → k ∈ ks) (hkl : ks.length ≤ 100) :
    ∃ P : List Key, P.length ≤ 100000000 ∧ ∀ x, x ∈ P ↔ isNode E x.a ∧ isNode E x.b ∧ ∃ i : Nat, i < m ∧ x.c = (i : Int) := by
  obtain ⟨ks', hks'⟩ : ∃ l, l = ks.filter fun k => (E k).isSome := ⟨_, rfl⟩
  have hm1 : ∀ k, k ∈ ks' ↔ (E k).isSome = true := fun k => by
    rw [hks', List.mem_filter]
    exact ⟨fun h => h.2, fun h => ⟨hks k h, h⟩⟩
  have hl' : ks'.length ≤ 100 := by rw [hks']; exact Nat.le_trans (List.length_filter_le ..) hkl
  obtain ⟨Ns, hNs⟩ : ∃ l, l = ks'.flatMap fun k => [k.a, k.c] := ⟨_, rfl⟩
  have hm2 : ∀ n, n ∈ Ns ↔ isNode E n := fun n => by
    rw [hNs, List.mem_flatMap]
    constructor
    · rintro ⟨k, hk, hn⟩
      obtain ⟨u, hu⟩ := Option.isSome_iff_exists.1 ((hm1 k).1 hk)
      rcases List.mem_cons.1 hn with e | hn
      · exact ⟨k, u, hu, .inl e.symm⟩
      · exact ⟨k, u, hu, .inr (List.mem_singleton.1 hn).symm⟩
    · rintro ⟨k, u, hu, e⟩
      refine ⟨k, (hm1 k).2 (by rw [hu]; rfl), ?_⟩
      rcases e with e | e
      · rw [← e]; exact List.mem_cons_self ..
      · rw [← e]; exact List.mem_cons_of_mem _ (List.mem_singleton.2 rfl)
  have hl2 : Ns.length ≤ 200 := by
    have : Ns.length = 2 * ks'.length := by
      rw [hNs]
      clear hNs hm1 hl' hm2 hks'
      induction ks' with
      | nil => rfl
      | cons k l ih => rw [List.flatMap_cons, List.length_append, ih, List.length_cons]; simp; omega
    omega
  obtain ⟨P, hP⟩ : ∃ P, P = Ns.flatMap fun r => Ns.flatMap fun n => (List.range m).map fun i : Nat => (⟨r, n, (i : Int)⟩ : Key) := ⟨_, rfl⟩
  have hmP : ∀ x, x ∈ P ↔ isNode E x.a ∧ isNode E x.b ∧ ∃ i : Nat, i < m ∧ x.c = (i : Int) := fun x => by
    rw [hP, List.mem_flatMap]
    constructor
    · rintro ⟨r, hr, h⟩
      obtain ⟨n, hn, h⟩ := List.mem_flatMap.1 h
      obtain ⟨i, hi, rfl⟩ := List.mem_map.1 h
      exact ⟨(hm2 r).1 hr, (hm2 n).1 hn, i, List.mem_range.1 hi, rfl⟩
    · rintro ⟨h1, h2, i, h3, h4⟩
      refine ⟨x.a, (hm2 _).2 h1, List.mem_flatMap.2 ⟨x.b, (hm2 _).2 h2, List.mem_map.2 ⟨i, List.mem_range.2 h3, ?_⟩⟩⟩
      obtain ⟨a, b, c⟩ := x
      simp only at h4 ⊢
      rw [h4]
  have hlen : ∀ {α β : Type} (l : List α) (g : α → List β) (B : Nat), (∀ x ∈ l, (g x).length ≤ B) → (l.flatMap g).length ≤ l.length * B := by
    intro α β l g B hg
    induction l with
    | nil => simp
    | cons x l ih =>
      rw [List.flatMap_cons, List.length_append, List.length_cons, Nat.add_mul, Nat.one_mul]
      have h1 := hg x (List.mem_cons_self ..)
      have h2 := ih (fun y hy => hg y (List.mem_cons_of_mem _ hy))
      omega
  have hPl : P.length ≤ 100000000 := by
    rw [hP]
    have h1 := hlen Ns (fun r => Ns.flatMap fun n => (List.range m).map fun i : Nat => (⟨r, n, (i : Int)⟩ : Key)) (200 * 1000) (fun r _ => by
      have h2 := hlen Ns (fun n => (List.range m).map fun i : Nat => (⟨r, n, (i : Int)⟩ : Key)) 1000 (fun n _ => by rw [List.length_map, List.length_range]; exact hm)
      exact Nat.le_trans h2 (Nat.mul_le_mul_right _ hl2))
    have h3 : Ns.length * (200 * 1000) ≤ 200 * (200 * 1000) := Nat.mul_le_mul_right _ hl2
    omega
  exact ⟨P, hPl, hmP⟩
/-- places and times enough for visits -/
theorem good_of (w0 : World) (L : Loc) (room h : Int) (E : Gr3) (S : Int → Option Nat) (mv : List Mv) (b m : Nat) (f : Bst) (ks : List Key) (Vf : List Int) (hm : m ≤ 1000) (hdst : ∀ s o d, (s, o, d) ∈ mv → d < m)
    (hks : ∀ k, (E k).isSome = true → k ∈ ks) (hkl : ks.length ≤ 100) (hn : ∀ n, (S n).isSome = true ↔ isNode E n) (hE : ∀ k u, E k = some u → ok3 k ∧ okI u)
    (hf : ∀ y v, f y = some v → isNode E y.a ∧ isNode E y.b ∧ (∃ i : Nat, i < m ∧ y.c = (i : Int)) ∧ v ∈ Vf) (hV : ∀ v ∈ Vf, okI v) :
    ∃ P V, GoodE ⟨w0, L, room, h, E, S, autoM mv b, P, V⟩ ∧ (∀ y, (f y).isSome = true → y ∈ P) ∧ (∀ v ∈ Vf, v ∈ V) ∧ (∀ x ∈ P, ∃ i : Nat, i < m ∧ x.c = (i : Int)) ∧ ∀ r n (i : Nat), isNode E r → isNode E n → i < m → (⟨r, n, (i : Int)⟩ : Key) ∈ P := by
  obtain ⟨ks', hks'⟩ : ∃ l, l = ks.filter fun k => (E k).isSome := ⟨_, rfl⟩
  have hm1 : ∀ k, k ∈ ks' ↔ (E k).isSome = true := fun k => by
    rw [hks', List.mem_filter]
    exact ⟨fun h => h.2, fun h => ⟨hks k h, h⟩⟩
  have hl' : ks'.length ≤ 100 := by rw [hks']; exact Nat.le_trans (List.length_filter_le ..) hkl
  obtain ⟨Ns, hNs⟩ : ∃ l, l = ks'.flatMap fun k => [k.a, k.c] := ⟨_, rfl⟩
  have hm2 : ∀ n, n ∈ Ns ↔ isNode E n := fun n => by
    rw [hNs, List.mem_flatMap]
    constructor
    · rintro ⟨k, hk, hn⟩
      obtain ⟨u, hu⟩ := Option.isSome_iff_exists.1 ((hm1 k).1 hk)
      rcases List.mem_cons.1 hn with e | hn
      · exact ⟨k, u, hu, .inl e.symm⟩
      · exact ⟨k, u, hu, .inr (List.mem_singleton.1 hn).symm⟩
    · rintro ⟨k, u, hu, e⟩
      refine ⟨k, (hm1 k).2 (by rw [hu]; rfl), ?_⟩
      rcases e with e | e
      · rw [← e]; exact List.mem_cons_self ..
      · rw [← e]; exact List.mem_cons_of_mem _ (List.mem_singleton.2 rfl)
  have hl2 : Ns.length ≤ 200 := by
    have : Ns.length = 2 * ks'.length := by
      rw [hNs]
      clear hNs hm1 hl' hm2 hks'
      induction ks' with
      | nil => rfl
      | cons k l ih => rw [List.flatMap_cons, List.length_append, ih, List.length_cons]; simp; omega
    omega
  obtain ⟨P, hP⟩ : ∃ P, P = Ns.flatMap fun r => Ns.flatMap fun n => (List.range m).map fun i : Nat => (⟨r, n, (i : Int)⟩ : Key) := ⟨_, rfl⟩
  have hmP : ∀ x, x ∈ P ↔ isNode E x.a ∧ isNode E x.b ∧ ∃ i : Nat, i < m ∧ x.c = (i : Int) := fun x => by
    rw [hP, List.mem_flatMap]
    constructor
    · rintro ⟨r, hr, h⟩
      obtain ⟨n, hn, h⟩ := List.mem_flatMap.1 h
      obtain ⟨i, hi, rfl⟩ := List.mem_map.1 h
      exact ⟨(hm2 r).1 hr, (hm2 n).1 hn, i, List.mem_range.1 hi, rfl⟩
    · rintro ⟨h1, h2, i, h3, h4⟩
      refine ⟨x.a, (hm2 _).2 h1, List.mem_flatMap.2 ⟨x.b, (hm2 _).2 h2, List.mem_map.2 ⟨i, List.mem_range.2 h3, ?_⟩⟩⟩
      obtain ⟨a, b, c⟩ := x
      simp only at h4 ⊢
      rw [h4]
  have hlen : ∀ {α β : Type} (l : List α) (g : α → List β) (B : Nat), (∀ x ∈ l, (g x).length ≤ B) → (l.flatMap g).length ≤ l.length * B := by
    intro α β l g B hg
    induction l with
    | nil => simp
    | cons x l ih =>
      rw [List.flatMap_cons, List.length_append, List.length_cons, Nat.add_mul, Nat.one_mul]
      have h1 := hg x (List.mem_cons_self ..)
      have h2 := ih (fun y hy => hg y (List.mem_cons_of_mem _ hy))
      omega
  have hPl : P.length ≤ 100000000 := by
    rw [hP]
    have h1 := hlen Ns (fun r => Ns.flatMap fun n => (List.range m).map fun i : Nat => (⟨r, n, (i : Int)⟩ : Key)) (200 * 1000) (fun r _ => by
      have h2 := hlen Ns (fun n => (List.range m).map fun i : Nat => (⟨r, n, (i : Int)⟩ : Key)) 1000 (fun n _ => by rw [List.length_map, List.length_range]; exact hm)
      exact Nat.le_trans h2 (Nat.mul_le_mul_right _ hl2))
    have h3 : Ns.length * (200 * 1000) ≤ 200 * (200 * 1000) := Nat.mul_le_mul_right _ hl2
    omega
  have hnk : ∀ n, isNode E n → okI n := fun n hn => by
    obtain ⟨k, u, hu, e⟩ := hn
    have := (hE k u hu).1
    rcases e with e | e
    · rw [← e]; exact this.1
    · rw [← e]; exact this.2.2
  refine ⟨P, ks'.map (fun k => (E k).getD 0) ++ Vf, ⟨⟨fun k u hu => ?_, fun x k y hx hk hs => ?_⟩, fun x hx => ?_, fun u hu => ?_, hPl⟩, fun y hy => ?_, fun v hv => List.mem_append_right _ hv, fun x hx => ((hmP x).1 hx).2.2, fun r n i h1 h2 h3 => (hmP _).2 ⟨h1, h2, i, h3, rfl⟩⟩
  · have hu' : E k = some u := hu
    exact List.mem_append_left _ (List.mem_map.2 ⟨k, (hm1 k).2 (by rw [hu']; rfl), by rw [hu']; rfl⟩)
  · obtain ⟨h1, h2, h3⟩ := (hmP x).1 hx
    obtain ⟨u, hu⟩ := Option.isSome_iff_exists.1 hk
    rw [hmP]
    refine ⟨by rw [hs.1]; exact h1, ?_⟩
    rcases hs.2 with ⟨_, e2, i, j, _, e3, d, e4, e5⟩ | ⟨_, e2, i, j, _, e3, d, e4, e5⟩
    · exact ⟨⟨k, u, hu, .inr e2.symm⟩, j, way_lt hdst (hdst _ _ _ e4) e5, e3⟩
    · exact ⟨⟨k, u, hu, .inl e2.symm⟩, j, way_lt hdst (hdst _ _ _ e4) e5, e3⟩
  · obtain ⟨h1, h2, i, h3, h4⟩ := (hmP x).1 hx
    exact ⟨⟨hnk _ h1, hnk _ h2, by rw [h4]; exact okI_iff.2 (by omega)⟩, (hn _).2 h2⟩
  · rcases List.mem_append.1 hu with h | h
    · obtain ⟨k, hk, rfl⟩ := List.mem_map.1 h
      obtain ⟨u, hu⟩ := Option.isSome_iff_exists.1 ((hm1 k).1 hk)
      rw [hu]
      exact (hE k u hu).2
    · exact hV _ h
  · obtain ⟨v, hv⟩ := Option.isSome_iff_exists.1 hy
    obtain ⟨h1, h2, h3, _⟩ := hf y v hv
    exact (hmP y).2 ⟨h1, h2, h3⟩
end Go.Proofs.Ytiabmdboacpmcaa
/- maps.Clone. -/
namespace Go.Proofs.Ytiabmdboacpmcaa
open Go Go.RowKit Go.Sort Go.WideMaps Go.Maps
set_option maxHeartbeats 4000000

theorem eql_nilP (b : Option Nat) (w : World) : (binOp .eql 120 (.map b) (.map none)).run Try.prog w = .ok (.bool b.isNone) w := run_eql_map_nil_sl w _ _ _ b Try.underlying120
theorem eql_nilE (b : Option Nat) (w : World) : (binOp .eql 95 (.map b) (.map none)).run Try.prog w = .ok (.bool b.isNone) w := run_eql_map_nil_sl w _ _ _ b Try.underlying95
set_option maxRecDepth 100000 in
theorem clone_raw (b : Nat) (es : Array MapEntry) (clock : Nat) (w : World) (hb : w.heap[b]? = some (.map es clock)) :
    Calls Try.prog 72 #[.map (some b)] w fun e w' => e = .returned (.map (some w.heap.size)) ∧ w' = w.alloc (.map es clock) := by
  have hq := fun w => eql_nilP (some b) w
  go_enter Try.func72, Try.ntmps72
  go_wp2
  rw [run_callFunc_extern Try.func94 (by kernel_rfl) (by kernel_rfl) (by kernel_rfl) (e := Extern.MapsClone.clone) (by kernel_rfl), run_maps_clone_sl w 120 hb]
  simp only [Result.andThen]
  rw [Oper.upon_value]
  go_wp2
  rw [run_typeAssert_map_sl _ 120 _ _ _ _ Try.underlying120]
  simp only [Result.andThen]
  rw [Oper.upon_value]
  go_wp2
  refine bodyPost_ret (results_tmp rfl _ _ _) rfl ?_
  exact ⟨rfl, rfl⟩
set_option maxRecDepth 100000 in
theorem cloneE_raw (b : Nat) (es : Array MapEntry) (clock : Nat) (w : World) (hb : w.heap[b]? = some (.map es clock)) :
    Calls Try.prog 75 #[.map (some b)] w fun e w' => e = .returned (.map (some w.heap.size)) ∧ w' = w.alloc (.map es clock) := by
  have hq := fun w => eql_nilE (some b) w
  go_enter Try.func75, Try.ntmps75
  go_wp2
  rw [run_callFunc_extern Try.func94 (by kernel_rfl) (by kernel_rfl) (by kernel_rfl) (e := Extern.MapsClone.clone) (by kernel_rfl), run_maps_clone_sl w 95 hb]
  simp only [Result.andThen]
  rw [Oper.upon_value]
  go_wp2
  rw [run_typeAssert_map_sl _ 95 _ _ _ _ Try.underlying95]
  simp only [Result.andThen]
  rw [Oper.upon_value]
  go_wp2
  refine bodyPost_ret (results_tmp rfl _ _ _) rfl ?_
  exact ⟨rfl, rfl⟩
theorem cloneP_any (b N : Nat) (f : Bst) (w : World) (h : MapP b N f w) :
    Calls Try.prog 72 #[.map (some b)] w fun e w' => e = .returned (.map (some w.heap.size)) ∧ MapP w.heap.size N f w' ∧ Ext w w' ∧ w'.heap.size = w.heap.size + 1 := by
  obtain ⟨D, ⟨es, clock, hb, F, hs, hD⟩, h2, h3⟩ := h
  refine (clone_raw b es clock w hb).mono ?_
  rintro e w' ⟨rfl, rfl⟩
  exact ⟨rfl, ⟨D, ⟨es, clock, (MapKept.heap_alloc w _).1, F, hs, hD⟩, h2, h3⟩, ext_alloc (ext_refl _) _, by simp⟩
theorem cloneE_any (b N : Nat) (f : Gr3) (w : World) (h : MapE b N f w) :
    Calls Try.prog 75 #[.map (some b)] w fun e w' => e = .returned (.map (some w.heap.size)) ∧ MapE w.heap.size N f w' ∧ Ext w w' ∧ w'.heap.size = w.heap.size + 1 := by
  obtain ⟨D, ⟨es, clock, hb, F, hs, hD⟩, h2, h3⟩ := h
  refine (cloneE_raw b es clock w hb).mono ?_
  rintro e w' ⟨rfl, rfl⟩
  exact ⟨rfl, ⟨D, ⟨es, clock, (MapKept.heap_alloc w _).1, F, hs, hD⟩, h2, h3⟩, ext_alloc (ext_refl _) _, by simp⟩
end Go.Proofs.Ytiabmdboacpmcaa
/- An edge's ends let be nodes. -/
namespace Go.Proofs.Ytiabmdboacpmcaa
open Go Go.RowKit Go.Sort Go.WideMaps Go.Maps
set_option maxHeartbeats 1000000

structure EndF (mv : List Mv) (b : Nat) (E : Gr3) (k : Key) (f0 : Bst) (es : List Int) (S : Int → Option Nat) (sub : Int → Key → Option Bool) (f : Bst) : Prop where
  nodes : ∀ n, (S n).isSome = true ↔ isNode E n ∨ n ∈ es
  sub : ∀ n k', (S n).isSome = true → sub n k' = if k' = k ∧ n ∈ es then some true else subF E n k'
  old : ∀ y v, f y = some v → f0 y = some v ∨ ¬ isNode E y.b ∧ v = forever ∧ y.a = y.b ∧ y.b ∈ es ∧ (autoM mv b).begin' y.c
  le : leB f0 f
  base : ∀ n s, n ∈ es → (autoM mv b).begin' s → ¬ isNode E n → f ⟨n, n, s⟩ = some forever
theorem endF_none {mv : List Mv} {b : Nat} {E : Gr3} {k : Key} {f0 f : Bst} {es : List Int} {S : Int → Option Nat} {sub : Int → Key → Option Bool} (h : EndF mv b E k f0 es S sub f) (hs : Sound (autoM mv b) E f0) {n : Int} (hn : S n = none) : ∀ s, f ⟨n, n, s⟩ = none := fun s => by
  have hno : ¬ ((S n).isSome = true) := by rw [hn]; simp
  rw [h.nodes] at hno
  cases hf : f ⟨n, n, s⟩ with
  | none => rfl
  | some v =>
    exfalso
    rcases h.old _ _ hf with h1 | ⟨_, _, _, h1, _⟩
    · exact hno (.inl (der_nodes (hs _ _ h1)).1)
    · exact hno (.inr h1)
def subAdd (sub : Int → Key → Option Bool) (n : Int) (k : Key) : Int → Key → Option Bool := fun x k' => if x = n then (if k' = k then some true else sub n k') else sub x k'
theorem end_step {mv : List Mv} {b : Nat} {E : Gr3} {k : Key} {f0 f f' : Bst} {es : List Int} {S S' : Int → Option Nat} {sub sub' : Int → Key → Option Bool} {n : Int} (h : EndF mv b E k f0 es S sub f) (t : NodeTo mv b n S S' sub sub' f f') (hs : Sound (autoM mv b) E f0) : EndF mv b E k f0 (es ++ [n]) S' (subAdd sub' n k) f' := by
  refine ⟨fun x => ?_, fun x k' hx => ?_, fun y v hv => ?_, fun y => ?_, fun x s hx hb hno => ?_⟩
  · by_cases e : x = n
    · subst e
      exact ⟨fun _ => .inr (by simp), fun _ => t.has⟩
    · rw [t.oth x e, h.nodes]
      simp [e]
  · unfold subAdd
    by_cases e : x = n
    · subst e
      rw [if_pos rfl]
      by_cases ek : k' = k
      · rw [if_pos ek, if_pos ⟨ek, by simp⟩]
      · rw [if_neg ek, if_neg (fun c => ek c.1)]
        cases hS : S x with
        | none =>
          rw [t.new hS]
          have hno : ¬ ((S x).isSome = true) := by rw [hS]; simp
          rw [h.nodes] at hno
          unfold subF
          rw [if_neg]
          rintro ⟨h1, h2⟩
          obtain ⟨u, hu⟩ := Option.isSome_iff_exists.1 h1
          exact hno (.inl ⟨k', u, hu, h2⟩)
        | some c =>
          have hs' : (S x).isSome = true := by rw [hS]; rfl
          rw [t.sub x (.inr hs'), h.sub x k' hs', if_neg (fun c => ek c.1)]
    · rw [if_neg e]
      have hs' : (S x).isSome = true := by rw [← t.oth x e]; exact hx
      rw [t.sub x (.inl e), h.sub x k' hs']
      simp [e]
  · have hcase : ∀ w, f y = some w → f0 y = some w ∨ ¬ isNode E y.b ∧ w = forever ∧ y.a = y.b ∧ y.b ∈ es ++ [n] ∧ (autoM mv b).begin' y.c := fun w hw => by
      rcases h.old y w hw with h1 | ⟨h1, h2, h3, h4, h5⟩
      · exact .inl h1
      · exact .inr ⟨h1, h2, h3, List.mem_append_left _ h4, h5⟩
    cases hS : S n with
    | some c =>
      rw [(t.old (by rw [hS]; rfl)).1] at hv
      exact hcase v hv
    | none =>
      by_cases hc : y.a = n ∧ y.b = n ∧ (autoM mv b).begin' y.c
      · rw [t.put hS y hc.1 hc.2.1 hc.2.2] at hv
        cases hv
        have hno : ¬ ((S n).isSome = true) := by rw [hS]; simp
        rw [h.nodes] at hno
        exact .inr ⟨fun h5 => hno (.inl (by rw [← hc.2.1]; exact h5)), rfl, by rw [hc.1, hc.2.1], by rw [hc.2.1]; simp, hc.2.2⟩
      · rw [t.keep hS y hc] at hv
        exact hcase v hv
  · cases hS : S n with
    | some c => rw [(t.old (by rw [hS]; rfl)).1]; exact h.le y
    | none =>
      by_cases hc : y.a = n ∧ y.b = n ∧ (autoM mv b).begin' y.c
      · intro v hv
        exfalso
        have h5 := endF_none h hs hS y.c
        have hy : y = ⟨n, n, y.c⟩ := by
          obtain ⟨a, b', c⟩ := y
          simp only at hc
          rw [hc.1, hc.2.1]
        rw [← hy] at h5
        obtain ⟨v', h6, _⟩ := h.le y v hv
        rw [h5] at h6
        cases h6
      · rw [t.keep hS y hc]; exact h.le y
  · rcases List.mem_append.1 hx with hx | hx
    · have h5 := h.base x s hx hb hno
      cases hS : S n with
      | some c => rw [(t.old (by rw [hS]; rfl)).1]; exact h5
      | none =>
        have hne : ¬ (x = n) := fun e => by
          have : (S x).isSome = true := (h.nodes x).2 (.inr hx)
          rw [e, hS] at this
          cases this
        rw [t.keep hS _ (fun c => hne c.1)]
        exact h5
    · have hxn := List.mem_singleton.1 hx
      subst hxn
      cases hS : S x with
      | some c =>
        rcases (h.nodes x).1 (by rw [hS]; rfl) with h5 | h5
        · exact absurd h5 hno
        · rw [(t.old (by rw [hS]; rfl)).1]; exact h.base x s h5 hb hno
      | none => exact t.put hS _ rfl rfl hb
theorem node_setG' {E : Gr3} {k : Key} {u n : Int} (hk : ∀ v, E k = some v → v ≤ u) : isNode (setG E k u) n ↔ isNode E n ∨ n = k.a ∨ n = k.c := by
  constructor
  · exact node_setG
  · rintro (h | h | h)
    · exact node_mono (setG_le hk) h
    · rw [h]; exact (node_set E k u).1
    · rw [h]; exact (node_set E k u).2
theorem end_final {mv : List Mv} {b : Nat} {E : Gr3} {k : Key} {u : Int} {f0 f : Bst} {S : Int → Option Nat} {sub : Int → Key → Option Bool} (h : EndF mv b E k f0 [k.a, k.c] S sub f) (hf : FixB (autoM mv b) E f0) (hk : ∀ v, E k = some v → v ≤ u) :
    (∀ n, (S n).isSome = true ↔ isNode (setG E k u) n) ∧ (∀ n k', (S n).isSome = true → sub n k' = subF (setG E k u) n k') ∧ NewN (autoM mv b) E f0 f k ∧ Sound (autoM mv b) (setG E k u) f := by
  refine ⟨fun n => ?_, fun n k' hn => ?_, ⟨fun y v hv => ?_, h.le, fun n s hn hb => ?_⟩, fun y v hv => ?_⟩
  · rw [node_setG' hk, h.nodes]
    simp
  · rw [h.sub n k' hn]
    unfold subF
    by_cases ek : k' = k
    · subst ek
      rw [setG_same]
      by_cases hn2 : n ∈ [k'.a, k'.c]
      · rw [if_pos ⟨rfl, hn2⟩, if_pos ⟨rfl, by simpa [eq_comm] using hn2⟩]
      · have : ¬ (k'.a = n ∨ k'.c = n) := by simpa [eq_comm] using hn2
        rw [if_neg (fun c => hn2 c.2), if_neg (fun c => this c.2), if_neg (fun c => this c.2)]
    · rw [if_neg (fun c => ek c.1), setG_other ek]
  · rcases h.old y v hv with h1 | ⟨h1, h2, _⟩
    · exact .inl h1
    · exact .inr ⟨h1, h2⟩
  · by_cases hno : isNode E n
    · obtain ⟨v', h1, h2⟩ := h.le _ _ (hf.base n s hno hb)
      rcases h.old _ _ h1 with h3 | ⟨_, h3, _⟩
      · have := der_top (hf.sound _ _ h3)
        rw [h1]; congr 1; omega
      · rw [h1, h3]
    · exact h.base n s (by simpa using hn) hb hno
  · rcases h.old y v hv with h1 | ⟨_, h2, h3, h4, h5⟩
    · exact der_mono (setG_le hk) (hf.sound y v h1)
    · obtain ⟨a, b', c⟩ := y
      simp only at h3 h4 h5
      subst h3
      rw [h2]
      refine .base ((node_setG' hk).2 (.inr (by simpa using h4))) h5 (Int.le_refl _)
theorem mid_sub {w0 w w' : World} {L : Loc} {room h : Int} {E : Gr3} {S : Int → Option Nat} {sub : Int → Key → Option Bool} {F : Nat → Prop} {n : Int} {sb : Nat} {k : Key} (H : MidH w0 L room h E S sub F w) (_hbb : ∃ N f, MapP L.bb N f w) (hn : S n = some sb) (hU : Upd (fun b => b = sb) w w') (hM : ∃ N, MapS sb N (fun z => if z = k then some true else sub n z) w') : MidH w0 L room h E S (subAdd sub n k) F w' ∧ (∀ N f, MapP L.bb N f w → MapP L.bb N f w') := by
  obtain ⟨N, h1⟩ := H.edges
  obtain ⟨M, h2⟩ := H.out
  obtain ⟨NN, hNN⟩ := H.sub n sb hn
  obtain ⟨c1, c2, c3⟩ := H.sne n sb hn
  have hpf : L.pf ≠ sb := mapG_off hNN H.blk
  refine ⟨⟨(hU.block _ (block_lt H.blk) hpf).trans H.blk, ⟨N, mapG_upd h1 hU (fun e => c1 e.symm)⟩, ⟨M, mapG_upd h2 hU (fun e => c2 e.symm)⟩, fun x c hx => ?_, H.ne, H.sne, H.sinj, H.low, ?_, H.own⟩, fun N f hP => mapG_upd hP hU (fun e => c3 e.symm)⟩
  · by_cases e : x = n
    · subst e
      rw [hn] at hx
      cases hx
      obtain ⟨N', h5⟩ := hM
      exact ⟨N', mapG_congr h5 (fun z => by simp [subAdd]) rfl⟩
    · obtain ⟨N', h5⟩ := H.sub x c hx
      refine ⟨N', mapG_congr (mapG_upd h5 hU (fun e' => e (H.sinj x n sb (by rw [hx]; exact congrArg some e') hn))) (fun z => by simp [subAdd, e]) rfl⟩
  · exact ext_of_upd (upd_trans (upd_of_ext H.ext) hU (fun i hi e => by have e' : i = sb := e; have := H.low.2.2.2.2 n sb hn; omega))
end Go.Proofs.Ytiabmdboacpmcaa
