/- Texts joined: Hb Hc Hd He. -/
import Derived.Test.YtiabmdboacpmcaaY10
import Derived.Test.YtiabmdboacpmcaaY05
import Derived.Test.YtiabmdboacpmcaaChecked
import Derived.Laws.NewBlocks
import Derived.Test.YtiabmdboacpmcaaY03
/- A forest in memory. -/
namespace Go.Proofs.Ytiabmdboacpmcaa
open Go Go.RowKit Go.Sort Go.WideMaps Go.Maps
set_option maxHeartbeats 800000

abbrev ptr (p : Nat) : Value := .pointer (some ⟨p, 0, none⟩)
theorem laidR : laidOutB Try.prog = true := by kernel_rfl
theorem sizeT' : ∃ m, Try.prog.types.size = m + 1 := ⟨Try.prog.types.size - 1, by kernel_rfl⟩
theorem rowK' : 85 < Try.prog.types.size := of_decide_eq_true (by kernel_rfl)
theorem rowP' : 124 < Try.prog.types.size := of_decide_eq_true (by kernel_rfl)
theorem rowQ' : 68 < Try.prog.types.size := of_decide_eq_true (by kernel_rfl)
theorem lawK' : Keyed Try.prog 85 := Keyed.of_law (deep_law_laid laidR (m := 2) (by omega) rowK' (by kernel_rfl) (by kernel_rfl))
theorem lawP' : Keyed Try.prog 124 := Keyed.of_law (deep_law_laid laidR (m := 2) (by omega) rowP' (by kernel_rfl) (by kernel_rfl))
theorem lawQ' : Keyed Try.prog 68 := Keyed.of_law (deep_law_laid laidR (m := 2) (by omega) rowQ' (by kernel_rfl) (by kernel_rfl))
theorem zeroI' (w : World) : (zeroValue 3).run Try.prog w = .ok (.int .i64 0) w := by rw [Try.zeroValue3]
theorem zeroB' (w : World) : (zeroValue 4).run Try.prog w = .ok (.bool false) w := by rw [Try.zeroValue4]
theorem zeroM' (w : World) : (zeroValue 128).run Try.prog w = .ok (.map none) w := by rw [Try.zeroValue128]
noncomputable def kK : KT Try.prog 85 Key := ktArr3 Try.underlying85 Try.underlying3 (by kernel_rfl) (by kernel_rfl) (by kernel_rfl) sizeT' lawK'
noncomputable def kP : KT Try.prog 124 Key := ktStr3 Try.underlying124 Try.underlying3 Try.underlying3 Try.underlying3 rfl rfl rfl (by kernel_rfl) (by kernel_rfl) (by kernel_rfl) (by kernel_rfl) (by kernel_rfl) (by kernel_rfl) sizeT' lawP'
noncomputable def kQ : KT Try.prog 68 Two := ktStr2 Try.underlying68 Try.underlying3 Try.underlying3 rfl rfl (by kernel_rfl) (by kernel_rfl) (by kernel_rfl) (by kernel_rfl) (by kernel_rfl) sizeT' lawQ'
noncomputable def kI : KT Try.prog 3 Int := ktInt Try.underlying3
noncomputable def eI : ET Try.prog 3 Int := etInt Try.underlying3 zeroI'
noncomputable def eB : ET Try.prog 4 Bool := etBool Try.underlying4 zeroB'
noncomputable def eM : ET Try.prog 128 (Option Nat) := etMap zeroM'
theorem heap_2r (w : World) (o0 o1 : Obj) : ((w.alloc o0).alloc o1).heap[w.heap.size]? = some o0 ∧ ((w.alloc o0).alloc o1).heap[w.heap.size + 1]? = some o1 := by
  have h := ext_block (ext_alloc (ext_refl (w.alloc o0)) o1) (k := w.heap.size) (by simp)
  refine ⟨h.trans (heap_alloc_new w o0), ?_⟩
  have := heap_alloc_new (w.alloc o0) o1
  simpa using this
/-- the edges -/
abbrev MapE (b N : Nat) (f : Gr3) (w : World) : Prop := MapG kK eI b N f w
/-- the places -/
abbrev MapP (b N : Nat) (f : Bst) (w : World) : Prop := MapG kP eI b N f w
/-- a node's edges -/
abbrev MapS (b N : Nat) (f : Key → Option Bool) (w : World) : Prop := MapG kK eB b N f w
/-- the nodes -/
abbrev MapO (b N : Nat) (f : Int → Option (Option Nat)) (w : World) : Prop := MapG kI eM b N f w
/-- the pairs -/
abbrev MapQ (b N : Nat) (f : Two → Option Int) (w : World) : Prop := MapG kQ eI b N f w
def subF (E : Gr3) (n : Int) : Key → Option Bool := fun k => if (E k).isSome = true ∧ (k.a = n ∨ k.c = n) then some true else none
/-- where a forest lies -/
structure Loc where
  pm : Nat
  pf : Nat
  be : Nat
  bo : Nat
  bb : Nat
/-- a forest but for its places -/
structure FS (w0 : World) (L : Loc) (room h : Int) (E : Gr3) (S : Int → Option Nat) (w : World) : Prop where
  blk : w.heap[L.pf]? = some (.cells #[ptr L.pm, .int .i64 room, .int .i64 h, .map (some L.be), .map (some L.bo), .map (some L.bb)] 122 (0, 0))
  edges : ∃ N, MapE L.be N E w
  out : ∃ N, MapO L.bo N (fun n => (S n).map some) w
  sub : ∀ n b, S n = some b → ∃ N, MapS b N (subF E n) w
  ne : L.be ≠ L.bo ∧ L.be ≠ L.bb ∧ L.bo ≠ L.bb
  sne : ∀ n b, S n = some b → b ≠ L.be ∧ b ≠ L.bo ∧ b ≠ L.bb
  sinj : ∀ n n' b, S n = some b → S n' = some b → n = n'
  low : w0.heap.size ≤ L.pf ∧ w0.heap.size ≤ L.be ∧ w0.heap.size ≤ L.bo ∧ w0.heap.size ≤ L.bb ∧ ∀ n b, S n = some b → w0.heap.size ≤ b
  ext : Ext w0 w
  nodes : ∀ n, (S n).isSome = true ↔ isNode E n
theorem cells_offG {k e : TypeId} {α β : Type} {K : KT Try.prog k α} {E : ET Try.prog e β} {b N : Nat} {f : α → Option β} {w : World} (h : MapG K E b N f w) {g : Nat} {cs : Array Value} {t : TypeId} {fr : Nat × Nat} (hg : w.heap[g]? = some (.cells cs t fr)) : g ≠ b := mapG_off h hg
theorem fs_ext {w0 w w' : World} {L : Loc} {room h : Int} {E : Gr3} {S : Int → Option Nat} (H : FS w0 L room h E S w) (hE : Ext w w') : FS w0 L room h E S w' := by
  obtain ⟨N, h1⟩ := H.edges
  obtain ⟨M, h2⟩ := H.out
  exact ⟨(ext_block hE (block_lt H.blk)).trans H.blk, ⟨N, mapG_ext h1 hE⟩, ⟨M, mapG_ext h2 hE⟩, fun n b hb => by obtain ⟨N, h3⟩ := H.sub n b hb; exact ⟨N, mapG_ext h3 hE⟩, H.ne, H.sne, H.sinj, H.low, ext_trans H.ext hE, H.nodes⟩
/-- only the places turn -/
theorem fs_best {w0 w w' : World} {L : Loc} {room h : Int} {E : Gr3} {S : Int → Option Nat} (H : FS w0 L room h E S w) (hbb : ∃ N f, MapP L.bb N f w) (hU : Upd (fun b => b = L.bb) w w') : FS w0 L room h E S w' := by
  obtain ⟨N, h1⟩ := H.edges
  obtain ⟨M, h2⟩ := H.out
  obtain ⟨K, f, h3⟩ := hbb
  have hpf : L.pf ≠ L.bb := mapG_off h3 H.blk
  refine ⟨(hU.block _ (block_lt H.blk) hpf).trans H.blk, ⟨N, mapG_upd h1 hU H.ne.2.1⟩, ⟨M, mapG_upd h2 hU H.ne.2.2⟩, fun n b hb => ?_, H.ne, H.sne, H.sinj, H.low, ?_, H.nodes⟩
  · obtain ⟨N, h3⟩ := H.sub n b hb
    exact ⟨N, mapG_upd h3 hU (H.sne n b hb).2.2⟩
  · exact ext_of_upd (upd_trans (upd_of_ext H.ext) hU (fun i hi e => by have e' : i = L.bb := e; have := H.low.2.2.2.1; omega))
/-- a forest's places -/
def Best (L : Loc) (f : Bst) (w : World) : Prop := ∃ N, MapP L.bb N f w
theorem best_ext {L : Loc} {f : Bst} {w w' : World} (h : Best L f w) (hE : Ext w w') : Best L f w' := by
  obtain ⟨N, h⟩ := h
  exact ⟨N, mapG_ext h hE⟩
theorem best_bound {L : Loc} {f : Bst} {w : World} {P : List Key} (h : Best L f w) (hP : ∀ x, (f x).isSome = true → x ∈ P) : ∃ N, N ≤ P.length ∧ MapP L.bb N f w := by
  obtain ⟨N, h⟩ := h
  refine ⟨N, ?_, h⟩
  obtain ⟨M, h1, h2, h3⟩ := mapG_keys h
  rw [← h3]
  clear h h3
  have : ∀ {L M : List Key}, L.Nodup → (∀ x ∈ L, x ∈ M) → L.length ≤ M.length := by
    intro L
    induction L with
    | nil => intro M _ _; exact Nat.zero_le _
    | cons x L ih =>
      intro M hL h
      obtain ⟨h1, h2⟩ := List.nodup_cons.1 hL
      have hx := h x (List.mem_cons_self ..)
      have := ih (M := M.erase x) h2 (fun y hy => (List.mem_erase_of_ne (a := y) (b := x) (fun (e : y = x) => h1 (by rw [← e]; exact hy))).2 (h y (List.mem_cons_of_mem _ hy)))
      rw [List.length_erase_of_mem hx] at this
      have := List.length_pos_of_mem hx
      rw [List.length_cons]
      omega
  exact this h1 (fun x hx => hP x ((h2 x).1 hx))
end Go.Proofs.Ytiabmdboacpmcaa
/- along: on from a place along an edge, both ways. -/
namespace Go.Proofs.Ytiabmdboacpmcaa
open Go Go.RowKit Go.Sort
set_option maxHeartbeats 4000000

/-- what stays while places are visited -/
structure Env where
  w0 : World
  L : Loc
  room : Int
  h : Int
  E : Gr3
  S : Int → Option Nat
  A : Auto
  P : List Key
  V : List Int
structure GoodE (c : Env) : Prop where
  dom : Dom c.A c.E c.P c.V
  okP : ∀ x ∈ c.P, ok3 x ∧ (c.S x.b).isSome = true
  okV : ∀ u ∈ c.V, okI u
  len : c.P.length ≤ 100000000
abbrev Env.fs (c : Env) (w : World) : Prop := FS c.w0 c.L c.room c.h c.E c.S w
def Env.best (c : Env) (f : Bst) (w : World) : Prop := Best c.L f w ∧ ∀ y, (f y).isSome = true → y ∈ c.P
theorem env_best_ext {c : Env} {f : Bst} {w w' : World} (h : c.best f w) (hE : Ext w w') : c.best f w' := ⟨best_ext h.1 hE, h.2⟩
theorem env_fs_upd {c : Env} {f : Bst} {w w' : World} (h : c.fs w) (hb : c.best f w) (hU : Upd (fun b => b = c.L.bb) w w') : c.fs w' := fs_best h (by obtain ⟨N, hN⟩ := hb.1; exact ⟨N, f, hN⟩) hU
/-- what a visit leaves behind -/
def Left (c : Env) (u : Int) (f : Bst) (Q : Bst → Prop) (w : World) (e : Ending) (w' : World) : Prop := e = .returned (.tuple #[]) ∧ ∃ g, c.best g w' ∧ Visit c.A c.E u f g ∧ Q g ∧ Upd (fun b => b = c.L.bb) w w'
def LeadAt (c : Env) (n : Nat) : Prop := ∀ (x : Key) (p : Int) (bk : Bool) (to' u : Int) (f : Bst) (w : World), c.fs w → c.best f w → gap c.P c.V f ≤ n → x ∈ c.P → okI p → okI to' → u ∈ c.V →
  (∀ st, c.A.step x.c p bk st → (⟨x.a, to', st⟩ : Key) ∈ c.P ∧ (Sound c.A c.E f → Der c.A c.E ⟨x.a, to', st⟩ u)) →
  Calls Try.prog 95 #[ptr c.L.pf, k3 x, .agg #[.int .i64 p, .bool bk], .int .i64 to', .int .i64 u] w (Left c u f (fun g => ∀ st, c.A.step x.c p bk st → geO (g ⟨x.a, to', st⟩) u) w)
def AlongAt (c : Env) (n : Nat) : Prop := ∀ (x k : Key) (u t : Int) (f : Bst) (w : World), c.fs w → c.best f w → gap c.P c.V f ≤ n → x ∈ c.P → u ∈ c.V → c.E k = some t → (Sound c.A c.E f → Der c.A c.E x u) →
  Calls Try.prog 73 #[ptr c.L.pf, k3 x, .int .i64 u, k3 k] w (Left c u f (fun g => ∀ z, Succ c.A x k z → geO (g z) (min u t)) w)
def KeepAt (c : Env) (n : Nat) : Prop := ∀ (x : Key) (u : Int) (f : Bst) (w : World), c.fs w → c.best f w → gap c.P c.V f ≤ n → x ∈ c.P → u ∈ c.V → (Sound c.A c.E f → Der c.A c.E x u) →
  Calls Try.prog 93 #[ptr c.L.pf, k3 x, .int .i64 u] w (Left c u f (fun g => geO (g x) u) w)
theorem sound_le {A : Auto} {E : Gr3} {f g : Bst} (h : leB f g) (hs : Sound A E g) : Sound A E f := fun x v hv => by
  obtain ⟨v', h1, h2⟩ := h x v hv
  exact der_le (hs x v' h1) h2
theorem edge_ok {c : Env} {w : World} (h : c.fs w) {k : Key} {t : Int} (hk : c.E k = some t) : ok3 k ∧ okI t := by
  obtain ⟨N, hN⟩ := h.edges
  exact mapG_out hN hk
theorem build_fwd (n : Int) (w : World) : (Instr.build 42 #[(0, .int .i64 n)]).run Try.prog w = .ok (.agg #[.int .i64 n, .bool false]) w := run_build w _ _ _ (by kernel_rfl)
theorem build_bwd (n : Int) (w : World) : (Instr.build 42 #[(0, .int .i64 n), (1, .bool true)]).run Try.prog w = .ok (.agg #[.int .i64 n, .bool true]) w := run_build w _ _ _ (by kernel_rfl)
set_option maxRecDepth 100000 in
theorem along_any (c : Env) (G : GoodE c) (n : Nat) (HL : LeadAt c n) : AlongAt c n := by
  rintro ⟨xa, xb, xc⟩ ⟨ka, kb, kc⟩ u t f w hfs hb hg hx hu hk hd
  obtain ⟨hkok, htok⟩ := edge_ok hfs hk
  have hxok := (G.okP _ hx).1
  obtain ⟨m, hm⟩ : ∃ m, m = min u t := ⟨_, rfl⟩
  have hmv : m ∈ c.V := by rw [hm]; exact min_mem hu (G.dom.val _ t hk)
  have hmu : m ≤ u := by rw [hm]; exact Int.min_le_left ..
  have hmt : m ≤ t := by rw [hm]; exact Int.min_le_right ..
  obtain ⟨NE, hNE⟩ := hfs.edges
  obtain ⟨W, hW⟩ : ∃ W, W = (w.alloc (.cells #[.int .i64 xa, .int .i64 xb, .int .i64 xc] 124)).alloc (.cells #[.int .i64 ka, .int .i64 kb, .int .i64 kc] 85) := ⟨_, rfl⟩
  have hE0 : Ext w W := by rw [hW]; exact ext_alloc (ext_alloc (ext_refl _) _) _
  obtain ⟨bx, hbx⟩ : ∃ b, b = w.heap.size := ⟨_, rfl⟩
  obtain ⟨bk, hbk⟩ : ∃ b, b = w.heap.size + 1 := ⟨_, rfl⟩
  have hX : W.heap[bx]? = some (.cells #[.int .i64 xa, .int .i64 xb, .int .i64 xc] 124 (0, 0)) := by rw [hW, hbx]; exact (heap_2r w _ _).1
  have hK : W.heap[bk]? = some (.cells #[.int .i64 ka, .int .i64 kb, .int .i64 kc] 85 (0, 0)) := by rw [hW, hbk]; exact (heap_2r w _ _).2
  have hblk := (fs_ext hfs hE0).blk
  have q3 := block_cell hblk 3
  have l0 := block_lt hblk
  have k0 := block_cell hK 0
  have k1 := block_cell hK 1
  have k2 := block_cell hK 2
  have lk := block_lt hK
  have hlk : ∀ (d : Nat) (os : Array Obj), (Instr.lookup 95 (.map (some c.L.be)) (.agg #[.int .i64 ka, .int .i64 kb, .int .i64 kc]) false).run Try.prog (grow (redrawn W d) os) = .ok (.int .i64 t) (grow (redrawn W d) os) := fun d os => by
    have h3 := look_G Try.underlying95 (mapG_ext hNE (ext_trans hE0 (ext_grow (ext_refl _) d os))) (x := ⟨ka, kb, kc⟩) hkok
    rw [hk] at h3
    exact h3
  have HFS := Lib.hid (fs_ext hfs hE0)
  have HB := Lib.hid (env_best_ext hb hE0)
  have HE0 := Lib.hid hE0
  have HX := Lib.hid hX
  have HK := Lib.hid hK
  have HM := Lib.hid hm
  have HKO := Lib.hid hkok
  have HKE := Lib.hid hk
  have HD := Lib.hid hd
  have HG := Lib.hid hg
  have hmin : ((if t < u then t else u) : Int) = m := by rw [hm]; split <;> omega
  have HSZ := Lib.hid (show bx = w.heap.size ∧ bk = w.heap.size + 1 from ⟨hbx, hbk⟩)
  have HW := Lib.hid hW
  clear hfs hb hE0 hX hK hblk hNE hk hd hg hm hkok hW hbx hbk
  simp only [k3]
  go_enter Try.func73, Try.ntmps73
  have hgc := cell_grown
  go_wp2
  refine wp_gen (fun W2 hW2 => ?_)
  obtain rfl : W2 = W := hW2.trans HW.out.symm
  rw [← HSZ.out.2, ← HSZ.out.1]
  clear hW2 HW
  refine wp_region_free 9 [0, 1, 2, 3, 4, 5, 6, 7, 8] [] (by kernel_rfl) (by kernel_rfl) ?_
  repeat (refine wpLoose_step rfl (fun K hK => ?_); (try simp only [Oper.quietAt, Oper.quietUpon]); go_simp; (refine hK _ ?_; clear hK K))
  refine wpLoose_nil (wpFresh_nil (fun w2 hE2 _ => ?_))
  simp only [List.drop_succ_cons, List.drop_zero]
  have HE2 := Lib.hid hE2
  clear q3 l0 k0 k1 k2 lk hlk hE2 hgc
  clear hmin
  have HFI := Lib.hid (show ∀ (g : Bst) (w9 : World), c.best g w9 → Visit c.A c.E m f g → (ka = xb → ∀ st, c.A.step xc kb false st → geO (g ⟨xa, kc, st⟩) m) → (kc = xb → ∀ st, c.A.step xc kb true st → geO (g ⟨xa, ka, st⟩) m) → Upd (fun b => b = c.L.bb) w2 w9 → Left c u f (fun g => ∀ z, Succ c.A ⟨xa, xb, xc⟩ ⟨ka, kb, kc⟩ z → geO (g z) (min u t)) w (.returned (.tuple #[])) w9 from fun g w9 h1 h2 h3 h4 h5 => ⟨rfl, g, h1, visit_top h2 hmu, fun z hz => by
    rw [← HM.out]
    obtain ⟨za, zb, zc⟩ := z
    obtain ⟨e1, e2⟩ := hz
    simp only at e1 e2
    subst e1
    rcases e2 with ⟨e3, rfl, e4⟩ | ⟨e3, rfl, e4⟩
    · exact h3 e3 zc e4
    · exact h4 e3 zc e4, upd_trans (upd_of_ext (ext_trans HE0.out HE2.out)) h5 (fun _ _ h => h)⟩)
  have HPL := Lib.hid (show (ka = xb → ∀ st, c.A.step xc kb false st → Succ c.A ⟨xa, xb, xc⟩ ⟨ka, kb, kc⟩ ⟨xa, kc, st⟩) ∧ (kc = xb → ∀ st, c.A.step xc kb true st → Succ c.A ⟨xa, xb, xc⟩ ⟨ka, kb, kc⟩ ⟨xa, ka, st⟩) from ⟨fun e st h => ⟨rfl, .inl ⟨e, rfl, h⟩⟩, fun e st h => ⟨rfl, .inr ⟨e, rfl, h⟩⟩⟩)
  have HSU := Lib.hid (show ∀ st' : Key, Succ c.A ⟨xa, xb, xc⟩ ⟨ka, kb, kc⟩ st' → st' ∈ c.P ∧ (Sound c.A c.E f → Der c.A c.E st' m) from fun z hz => ⟨G.dom.suc _ _ z hx (by rw [HKE.out]; rfl) hz, fun hs => .step (der_le (HD.out hs) hmu) HKE.out hmt hz⟩)
  have HF3 := Lib.hid (fs_ext HFS.out HE2.out)
  have HB3 := Lib.hid (env_best_ext HB.out HE2.out)
  have HX3 := Lib.hid ((ext_block HE2.out (block_lt HX.out)).trans HX.out)
  have HK3 := Lib.hid ((ext_block HE2.out (block_lt HK.out)).trans HK.out)
  have hb1 := build_fwd kb
  have hb2 := build_bwd kb
  by_cases h1 : ka = xb
  · subst h1
    have x0 := block_cell HX3.out 0
    have x1 := block_cell HX3.out 1
    have x2 := block_cell HX3.out 2
    have lx := block_lt HX3.out
    have k0 := block_cell HK3.out 0
    have k1 := block_cell HK3.out 1
    have k2 := block_cell HK3.out 2
    have lk := block_lt HK3.out
    go_wp2_with fail
    refine (HL ⟨xa, ka, xc⟩ kb false kc m f w2 HF3.out HB3.out HG.out hx HKO.out.2.1 HKO.out.2.2 hmv (fun st hst => HSU.out _ (HPL.out.1 (by first | trivial | rfl) st hst))).mono ?_
    rintro e w3 ⟨rfl, g1, hb3, hv3, hq3, hU3⟩
    have hbx : bx ≠ c.L.bb := by obtain ⟨N, hN⟩ := HB3.out.1; exact mapG_off hN HX3.out
    have hbk : bk ≠ c.L.bb := by obtain ⟨N, hN⟩ := HB3.out.1; exact mapG_off hN HK3.out
    have hf3 := env_fs_upd HF3.out HB3.out hU3
    have hx3 := (hU3.block bx (block_lt HX3.out) hbx).trans HX3.out
    have hk3 := (hU3.block bk (block_lt HK3.out) hbk).trans HK3.out
    clear HF3 HB3 HX3 HK3 x0 x1 x2 lx k0 k1 k2 lk hbx hbk
    have HF3 := Lib.hid hf3
    have HB3 := Lib.hid hb3
    have HX3 := Lib.hid hx3
    have HK3 := Lib.hid hk3
    have HV3 := Lib.hid hv3
    have HQ3 := Lib.hid (show ka = ka → ∀ st, c.A.step xc kb false st → geO (g1 ⟨xa, kc, st⟩) m from fun _ => hq3)
    have HU3 := Lib.hid hU3
    clear hf3 hb3 hx3 hk3 hv3 hq3 hU3
    by_cases h2 : kc = ka
    · subst h2
      have x0 := block_cell HX3.out 0
      have x1 := block_cell HX3.out 1
      have x2 := block_cell HX3.out 2
      have lx := block_lt HX3.out
      have k0 := block_cell HK3.out 0
      have k1 := block_cell HK3.out 1
      have k2 := block_cell HK3.out 2
      have lk := block_lt HK3.out
      go_wp2_with fail
      refine (HL ⟨xa, kc, xc⟩ kb true kc m g1 w3 HF3.out HB3.out (Nat.le_trans (gap_mono HV3.out.le) HG.out) hx HKO.out.2.1 HKO.out.1 hmv (fun st hst => ?_)).mono ?_
      · obtain ⟨h5, h6⟩ := HSU.out _ (HPL.out.2 (by first | trivial | rfl) st hst)
        exact ⟨h5, fun hs => h6 (sound_le HV3.out.le hs)⟩
      rintro e w4 ⟨rfl, g2, hb4, hv4, hq4, hU4⟩
      have HFF := Lib.hid (HFI.out g2 w4 hb4 (visit_trans HV3.out hv4) (fun e st hst => geO_le (HQ3.out (by first | rfl | exact e) st hst) (hv4.le _)) (fun _ => hq4) (upd_trans HU3.out hU4 (fun _ _ h => h)))
      clear hb4 hv4 hq4 hU4 x0 x1 x2 lx k0 k1 k2 lk
      go_wp2
      go_end0
      exact HFF.out
    · have hd2 : (kc == ka) = false := by simpa using h2
      have x0 := block_cell HX3.out 0
      have x1 := block_cell HX3.out 1
      have x2 := block_cell HX3.out 2
      have lx := block_lt HX3.out
      have k0 := block_cell HK3.out 0
      have k1 := block_cell HK3.out 1
      have k2 := block_cell HK3.out 2
      have lk := block_lt HK3.out
      have HFF := Lib.hid (HFI.out g1 w3 HB3.out HV3.out (fun e => HQ3.out (by first | rfl | exact e)) (fun e => absurd e h2) HU3.out)
      go_wp2
      go_end0
      exact HFF.out
  · have hd1 : (ka == xb) = false := by simpa using h1
    obtain ⟨g1, hg1⟩ : ∃ g, g = f := ⟨_, rfl⟩
    have HV3 := Lib.hid (show Visit c.A c.E m f g1 by rw [hg1]; exact visit_refl ..)
    have HQ3 := Lib.hid (show ka = xb → ∀ st, c.A.step xc kb false st → geO (g1 ⟨xa, kc, st⟩) m from fun e => absurd e h1)
    obtain ⟨w3, hw3⟩ : ∃ w3, w3 = w2 := ⟨_, rfl⟩
    have HU3 := Lib.hid (show Upd (fun b => b = c.L.bb) w2 w3 by rw [hw3]; exact upd_refl)
    rw [← hw3] at HF3 HB3 HX3 HK3 ⊢
    rw [← hg1] at HB3
    clear hw3 hg1
    by_cases h2 : kc = xb
    · subst h2
      have x0 := block_cell HX3.out 0
      have x1 := block_cell HX3.out 1
      have x2 := block_cell HX3.out 2
      have lx := block_lt HX3.out
      have k0 := block_cell HK3.out 0
      have k1 := block_cell HK3.out 1
      have k2 := block_cell HK3.out 2
      have lk := block_lt HK3.out
      go_wp2_with fail
      refine (HL ⟨xa, kc, xc⟩ kb true ka m g1 w3 HF3.out HB3.out (Nat.le_trans (gap_mono HV3.out.le) HG.out) hx HKO.out.2.1 HKO.out.1 hmv (fun st hst => ?_)).mono ?_
      · obtain ⟨h5, h6⟩ := HSU.out _ (HPL.out.2 (by first | trivial | rfl) st hst)
        exact ⟨h5, fun hs => h6 (sound_le HV3.out.le hs)⟩
      rintro e w4 ⟨rfl, g2, hb4, hv4, hq4, hU4⟩
      have HFF := Lib.hid (HFI.out g2 w4 hb4 (visit_trans HV3.out hv4) (fun e st hst => geO_le (HQ3.out (by first | rfl | exact e) st hst) (hv4.le _)) (fun _ => hq4) (upd_trans HU3.out hU4 (fun _ _ h => h)))
      clear hb4 hv4 hq4 hU4 x0 x1 x2 lx k0 k1 k2 lk
      go_wp2
      go_end0
      exact HFF.out
    · have hd2 : (kc == xb) = false := by simpa using h2
      have x0 := block_cell HX3.out 0
      have x1 := block_cell HX3.out 1
      have x2 := block_cell HX3.out 2
      have lx := block_lt HX3.out
      have k0 := block_cell HK3.out 0
      have k1 := block_cell HK3.out 1
      have k2 := block_cell HK3.out 2
      have lk := block_lt HK3.out
      have HFF := Lib.hid (HFI.out g1 w3 HB3.out HV3.out (fun e => HQ3.out (by first | rfl | exact e)) (fun e => absurd e h2) HU3.out)
      go_wp2
      go_end0
      exact HFF.out
end Go.Proofs.Ytiabmdboacpmcaa
/- keep, walked: a place is laid, and all edges of its node are gone along. -/
namespace Go.Proofs.Ytiabmdboacpmcaa
open Go Go.RowKit Go.Sort
set_option maxHeartbeats 4000000

/-- the step of a range over a map, the element as a value -/
theorem wpList_next_V {P : Program} {k e : TypeId} {α β : Type} [DecidableEq α] {K : KT P k α} {E : ET P e β} {b r N : Nat} {f : α → Option β} {done : List α} (w : World) {ops : Array Oper} {rest : List Oper} {o : Oper} {a : Act} {Q : Exit → Act → World → Prop}
    (hg : o.guard = none) (it : Operand) (hop : o.op = Op.next it false) (hit : a.eval it = .pointer (some ⟨r, 0, none⟩)) (h : RngG K E b r N f done w)
    (hDone : (∀ x, (f x).isSome = true → x ∈ done) → wpList P ops Q rest (a.put o.dst (.tuple #[.bool false])) w)
    (hMore : ∀ (x : α) (v : Value) (w' : World), (f x).isSome = true → x ∉ done → RngG K E b r N f (done ++ [x]) w' → w'.rangeLeft b r < w.rangeLeft b r → w.grownBy w' (some r) → w'.heap.size = w.heap.size →
      (Instr.entry (.pointer (some ⟨r, 0, none⟩))).run P w' = .ok (.tuple #[K.val x, v]) w' → wpList P ops Q rest (a.put o.dst (.tuple #[.bool true, K.val x, v])) w') : wpList P ops Q (o :: rest) a w :=
  wpList_next_G w hg it hop hit h hDone (fun x c w' h1 h2 h3 h4 h5 h6 h7 => hMore x (E.val c) w' (by rw [h1]; rfl) h2 h3 h4 h5 h6 h7)
theorem okI_place {x : Key} (h : ok3 x) : kP.ok x := h
set_option maxRecDepth 100000 in
theorem keep_walk (L : Loc) (room h : Int) (S : Int → Option Nat) (x : Key) (u : Int) (f : Bst) (fs : Key → Option Bool) (sb NP : Nat) (w : World) (J : List Key → World → Prop)
    (hblk : w.heap[L.pf]? = some (.cells #[ptr L.pm, .int .i64 room, .int .i64 h, .map (some L.be), .map (some L.bo), .map (some L.bb)] 122 (0, 0)))
    (hO : ∃ N, MapO L.bo N (fun n => (S n).map some) w) (hS : S x.b = some sb) (hs : ∃ N, MapS sb N fs w) (hP : MapP L.bb NP f w) (hNP : NP ≤ 1000000000) (hne : L.bo ≠ L.bb ∧ sb ≠ L.bb) (hx : ok3 x) (hu : okI u)
    (hJ0 : ¬ geO (f x) u → ∀ w1, Upd (fun b => b = L.bb) w w1 → (∃ N, MapP L.bb N (putB f x u) w1) → J [] w1) (hJE : ∀ done w1 w2 r, J done w1 → w.heap.size ≤ r → Upd (fun b => b = r) w1 w2 → J done w2)
    (hJA : ¬ geO (f x) u → ∀ k done w1, (fs k).isSome = true → k ∉ done → J done w1 → Upd (fun b => b = L.bb) w w1 → Calls Try.prog 73 #[ptr L.pf, k3 x, .int .i64 u, k3 k] w1 fun e w2 => e = .returned (.tuple #[]) ∧ J (done ++ [k]) w2 ∧ Upd (fun b => b = L.bb) w1 w2) :
    Calls Try.prog 93 #[ptr L.pf, k3 x, .int .i64 u] w fun e w' => e = .returned (.tuple #[]) ∧ (geO (f x) u ∧ Ext w w' ∨ ¬ geO (f x) u ∧ ∃ done, (∀ k, (fs k).isSome = true → k ∈ done) ∧ J done w' ∧ Upd (fun b => b = L.bb) w w') := by
  obtain ⟨NO, hO⟩ := hO
  obtain ⟨NS, hs⟩ := hs
  obtain ⟨W, hW⟩ : ∃ W, W = w.alloc (.cells #[.int .i64 x.a, .int .i64 x.b, .int .i64 x.c] 124) := ⟨_, rfl⟩
  have hE0 : Ext w W := by rw [hW]; exact ext_alloc (ext_refl _) _
  obtain ⟨bx, hbx⟩ : ∃ b, b = w.heap.size := ⟨_, rfl⟩
  have hX : W.heap[bx]? = some (.cells #[.int .i64 x.a, .int .i64 x.b, .int .i64 x.c] 124 (0, 0)) := by rw [hW, hbx]; exact heap_alloc_new _ _
  have HX := Lib.hid hX
  have HE0 := Lib.hid hE0
  have HBLK := Lib.hid ((ext_block hE0 (block_lt hblk)).trans hblk)
  have HP := Lib.hid (mapG_ext hP hE0)
  have HO := Lib.hid (mapG_ext hO hE0)
  have HS := Lib.hid (mapG_ext hs hE0)
  have HSB := Lib.hid hS
  have HNE := Lib.hid hne
  have HXO := Lib.hid hx
  have HUO := Lib.hid hu
  have HJ0 := Lib.hid hJ0
  have HJE := Lib.hid hJE
  have HJA := Lib.hid hJA
  have HW := Lib.hid (And.intro hW hbx)
  have HBBL := Lib.hid (mapG_lt hP)
  have q5 := block_cell HBLK.out 5
  have l0 := block_lt HBLK.out
  have x0 := block_cell hX 0
  have x1 := block_cell hX 1
  have x2 := block_cell hX 2
  have lx := block_lt hX
  obtain ⟨val, hval⟩ : ∃ v, v = (f x).getD 0 := ⟨_, rfl⟩
  obtain ⟨has, hhas⟩ : ∃ v, v = (f x).isSome := ⟨_, rfl⟩
  have hlk : ∀ (d : Nat) (os : Array Obj), (Instr.lookup 120 (.map (some L.bb)) (.agg #[.int .i64 x.a, .int .i64 x.b, .int .i64 x.c]) true).run Try.prog (grow (redrawn W d) os) = .ok (.tuple #[.int .i64 val, .bool has]) (grow (redrawn W d) os) := fun d os => by
    have h3 := look2_G Try.underlying120 (mapG_ext HP.out (ext_grow (ext_refl _) d os)) (x := x) hx
    rw [hval, hhas]
    exact h3
  have HVAL := Lib.hid (And.intro hval hhas)
  clear hblk hO hS hs hP hne hx hu hJ0 hJE hJA hW hbx hX hE0 hval hhas
  simp only [k3]
  go_enter Try.func93, Try.ntmps93
  have hgc := cell_grown
  go_wp2
  rw [← HW.out.1, ← HW.out.2]
  refine wp_region_free 11 [0, 1, 2, 3, 4, 5, 6, 7, 8, 9, 10] [] (by kernel_rfl) (by kernel_rfl) ?_
  repeat (refine wpLoose_step rfl (fun K hK => ?_); (try simp only [Oper.quietAt, Oper.quietUpon]); go_simp; (refine hK _ ?_; clear hK K))
  refine wpLoose_nil (wpFresh_nil (fun w2 hE2 _ => ?_))
  simp only [List.drop_succ_cons, List.drop_zero]
  have HE2 := Lib.hid hE2
  clear q5 l0 x0 x1 x2 lx hlk hE2 hgc
  by_cases hge : has = true ∧ u ≤ val
  · have h1 := hge.1
    have h2 := hge.2
    subst h1
    have HGE := Lib.hid (show geO (f x) u by
      obtain ⟨v, hv⟩ := Option.isSome_iff_exists.1 HVAL.out.2.symm
      refine ⟨v, hv, ?_⟩
      have h5 := HVAL.out.1
      rw [hv] at h5
      simp only [Option.getD_some] at h5
      omega)
    clear hge
    have HEF := Lib.hid (ext_trans HE0.out HE2.out)
    go_wp2
    refine bodyPost_ret (results_none rfl _ _ _) rfl ?_
    exact ⟨rfl, .inl ⟨HGE.out, HEF.out⟩⟩
  · have HGE := Lib.hid (show ¬ geO (f x) u by
      rintro ⟨v, hv, hle⟩
      refine hge ⟨?_, ?_⟩
      · rw [HVAL.out.2, hv]; rfl
      · rw [HVAL.out.1, hv]; exact hle)
    cases has with
    | false =>
      clear hge
      have hx2 := (ext_block HE2.out (block_lt HX.out)).trans HX.out
      have hblk2 := (ext_block HE2.out (block_lt HBLK.out)).trans HBLK.out
      have HX2 := Lib.hid hx2
      have HBLK2 := Lib.hid hblk2
      have HP2 := Lib.hid (mapG_ext HP.out HE2.out)
      have HO2 := Lib.hid (mapG_ext HO.out HE2.out)
      have HS2 := Lib.hid (mapG_ext HS.out HE2.out)
      have q5 := block_cell hblk2 5
      have l0 := block_lt hblk2
      have x0 := block_cell hx2 0
      have x1 := block_cell hx2 1
      have x2 := block_cell hx2 2
      have lx := block_lt hx2
      clear hx2 hblk2
      have hgc := cell_grown
      go_wp2
      refine wp_region_mix [] [0, 1, 2, 3, 4, 5] [] [6] (by kernel_rfl) (by kernel_rfl) (fun _ _ d _ _ h => by cases d <;> exact h) ?_
      refine wpPre_nil ?_
      repeat (refine wpLoose_step rfl (fun K hK => ?_); (try simp only [Oper.quietAt, Oper.quietUpon]); go_simp; (refine hK _ ?_; clear hK K))
      refine wpLoose_nil (wpFresh_nil (fun w3 hE3 _ => ?_))
      try simp only [List.drop_succ_cons, List.drop_zero]
      have HE3 := Lib.hid hE3
      clear q5 l0 x0 x1 x2 lx hE3 hgc
      refine wpSeq_of_list [6] [_] _ _ rfl ?_
      refine wpList_store_G (K := kP) (E := eI) _ rfl (.tmp 27) (.tmp 28) (.tmp 29) 120 rfl Try.underlying120 rfl (mapG_ext HP2.out HE3.out) (by unfold maxLen; omega) x rfl HXO.out u rfl HUO.out (fun w4 hP4 hg4 => ?_)
      have HU4 := Lib.hid (show Upd (fun b => b = L.bb) w w4 from upd_trans (upd_of_ext (ext_trans HE0.out (ext_trans HE2.out HE3.out))) (upd_grown hg4) (fun i _ e => (Option.some.inj e).symm))
      have hU34 := upd_grown hg4
      have hxb : bx ≠ L.bb := mapG_off HP2.out HX2.out
      have hpb : L.pf ≠ L.bb := mapG_off HP2.out HBLK2.out
      have hx4 := (hU34.block bx (ext_lt HE3.out (block_lt HX2.out)) (fun e => hxb (Option.some.inj e).symm)).trans ((ext_block HE3.out (block_lt HX2.out)).trans HX2.out)
      have hblk4 := (hU34.block L.pf (ext_lt HE3.out (block_lt HBLK2.out)) (fun e => hpb (Option.some.inj e).symm)).trans ((ext_block HE3.out (block_lt HBLK2.out)).trans HBLK2.out)
      have HO4 := Lib.hid (mapG_upd (mapG_ext HO2.out HE3.out) hU34 (fun e => HNE.out.1 (Option.some.inj e).symm))
      have HS4 := Lib.hid (mapG_upd (mapG_ext HS2.out HE3.out) hU34 (fun e => HNE.out.2 (Option.some.inj e).symm))
      have HJ4 := Lib.hid (HJ0.out HGE.out w4 HU4.out ⟨_, hP4⟩)
      have HX4 := Lib.hid hx4
      have HBLK4 := Lib.hid hblk4
      have HXB := Lib.hid (And.intro hxb hpb)
      clear hP4 hg4 hU34 hxb hpb HX2 HBLK2 HP2 HO2 HS2
      have q4 := block_cell hblk4 4
      have l0 := block_lt hblk4
      have x0 := block_cell hx4 0
      have x1 := block_cell hx4 1
      have x2 := block_cell hx4 2
      have lx := block_lt hx4
      have hlk : ∀ (d : Nat) (os : Array Obj), (Instr.lookup 119 (.map (some L.bo)) (.int .i64 x.b) false).run Try.prog (grow (redrawn w4 d) os) = .ok (.map (some sb)) (grow (redrawn w4 d) os) := fun d os => by
        have h3 := look_G Try.underlying119 (mapG_ext HO4.out (ext_grow (ext_refl _) d os)) (x := x.b) HXO.out.2.1
        rw [HSB.out] at h3
        exact h3
      clear hx4 hblk4
      have hgc := cell_grown
      go_wp2
      refine wp_region_mix [] [0, 1, 2, 3, 4, 5, 6] [] [7] (by kernel_rfl) (by kernel_rfl) (fun _ _ d _ _ h => by cases d <;> exact h) ?_
      refine wpPre_nil ?_
      repeat (refine wpLoose_step rfl (fun K hK => ?_); (try simp only [Oper.quietAt, Oper.quietUpon]); go_simp; (refine hK _ ?_; clear hK K))
      refine wpLoose_nil (wpFresh_nil (fun w5 hE5 _ => ?_))
      try simp only [List.drop_succ_cons, List.drop_zero]
      have HE5 := Lib.hid hE5
      clear q4 l0 x0 x1 x2 lx hE5 hgc hlk
      refine wpSeq_of_list [7] [_] _ _ rfl ?_
      refine wpList_range_G (K := kK) (E := eB) _ rfl (.tmp 36) 128 rfl Try.underlying128 rfl (mapG_ext HS4.out HE5.out) (fun w6 r hr hR6 hE6 _ => ?_)
      have HE46 := Lib.hid (ext_trans HE5.out hE6)
      have HR6 := Lib.hid hR6
      have HLR := Lib.hid (show w.heap.size ≤ r by rw [hr]; have := HU4.out.size; have := ext_size HE5.out; omega)
      clear hR6 hE6 hr
      go_simp
      go_wp2
      have HUE := Lib.hid (show ∀ w1 w2 : World, Ext w1 w2 → Upd (fun b => b = L.bb) w1 w2 from fun _ _ h => upd_of_ext h)
      go_loopw [8] (fun _ wn => ∃ done : List Key, RngG kK eB sb r NS fs done wn ∧ J done wn ∧ Upd (fun b => b = L.bb) w wn ∧ wn.heap[bx]? = some (.cells #[.int .i64 x.a, .int .i64 x.b, .int .i64 x.c] 124 (0, 0))) (fun _ wn => wn.rangeLeft sb r)
      case atStart => exact ⟨[], HR6.out, HJE.out _ w4 w6 r HJ4.out HLR.out (upd_of_ext HE46.out), upd_trans HU4.out (upd_of_ext HE46.out) (fun _ _ h => h), (ext_block HE46.out (block_lt HX4.out)).trans HX4.out⟩
      case round =>
        rename World => wn
        obtain ⟨done, hR, hJ, hU, hX⟩ := hrel
        have HR := Lib.hid hR
        have HJ := Lib.hid hJ
        have HU := Lib.hid hU
        have HXN := Lib.hid hX
        clear hR hJ hU hX
        go_wp2_with (first
          | (at_next; refine wpList_next_V wn rfl _ rfl rfl HR.out ?_ ?_)
          | go_in)
        · intro hall
          have HALL := Lib.hid hall
          clear hall
          go_wp2
          go_end0
          exact ⟨rfl, .inr ⟨HGE.out, done, HALL.out, HJ.out, HU.out⟩⟩
        · intro k cv w7 hfk hnk hR7 hlt7 hg7 hs7 hen
          rw [show kK.val k = .agg #[.int .i64 k.a, .int .i64 k.b, .int .i64 k.c] from rfl] at hen ⊢
          have hU7 := upd_grown hg7
          have hrx : r ≠ bx := fun e => (rngG_off HR.out HXN.out).2 e.symm
          have hrb : r ≠ L.bb := fun e => by
            have h5 := mapG_lt HP.out
            have h6 := ext_size HE0.out
            have h7 := HLR.out
            have h8 : L.bb < w.heap.size := HBBL.out
            omega
          obtain ⟨wa, hwa⟩ : ∃ x, x = w7.alloc (.cells #[.int .i64 k.a, .int .i64 k.b, .int .i64 k.c] 85) := ⟨_, rfl⟩
          have hEa : Ext w7 wa := by rw [hwa]; exact ext_alloc (ext_refl _) _
          have hJa := HJE.out done w7 wa r (HJE.out done wn w7 r HJ.out HLR.out (upd_mono hU7 (fun i _ e => (Option.some.inj e).symm))) HLR.out (upd_of_ext hEa)
          have hUa : Upd (fun b => b = L.bb) w wa := upd_trans (upd_trans HU.out hU7 (fun i hi e => absurd hi (by have h5 : r = i := Option.some.inj e; have := HLR.out; omega))) (upd_of_ext (fp := fun _ => False) hEa) (fun _ _ h => h.elim)
          have hxa := (ext_block hEa (Nat.lt_of_lt_of_le (block_lt HXN.out) hU7.size)).trans ((hU7.block bx (block_lt HXN.out) (fun e => hrx (Option.some.inj e))).trans HXN.out)
          have HRA := Lib.hid (rngG_ext hR7 hEa)
          have HLA := Lib.hid (show wa.rangeLeft sb r < wn.rangeLeft sb r by rw [left_ext hR7 hEa]; exact hlt7)
          have hcall := HJA.out HGE.out k done wa hfk hnk hJa hUa
          have HCA := Lib.hid hcall
          have HUA := Lib.hid hUa
          have HXA := Lib.hid hxa
          have HRB := Lib.hid hrb
          have x0 : w7.cell? ⟨bx, 0, none⟩ = some (.int .i64 x.a) := block_cell ((hU7.block bx (block_lt HXN.out) (fun e => hrx (Option.some.inj e))).trans HXN.out) 0
          have x1 : w7.cell? ⟨bx, 1, none⟩ = some (.int .i64 x.b) := block_cell ((hU7.block bx (block_lt HXN.out) (fun e => hrx (Option.some.inj e))).trans HXN.out) 1
          have x2 : w7.cell? ⟨bx, 2, none⟩ = some (.int .i64 x.c) := block_cell ((hU7.block bx (block_lt HXN.out) (fun e => hrx (Option.some.inj e))).trans HXN.out) 2
          have lx : bx < w7.heap.size := Nat.lt_of_lt_of_le (block_lt HXN.out) hU7.size
          clear hfk hnk hR7 hlt7 hg7 hs7 hJa hUa hxa hcall hU7 hrx hrb hEa
          go_wp2_with fail
          rw [← hwa]
          clear hwa hen x0 x1 x2 lx
          refine HCA.out.mono ?_
          rintro e w8 ⟨rfl, hJ8, hU8⟩
          have HJ8 := Lib.hid hJ8
          have HU8 := Lib.hid (upd_trans HUA.out hU8 (fun _ _ h => h))
          have HR8 := Lib.hid (rngG_upd HRA.out hU8 HNE.out.2 HRB.out)
          have HL8 := Lib.hid (show w8.rangeLeft sb r < wn.rangeLeft sb r by rw [left_upd HRA.out hU8 HNE.out.2 HRB.out]; exact HLA.out)
          have HX8 := Lib.hid ((hU8.block bx (block_lt HXA.out) HXB.out.1).trans HXA.out)
          clear hJ8 hU8
          go_wp2
          go_roundw
          case rel => exact ⟨done ++ [k], HR8.out, HJ8.out, HU8.out, HX8.out⟩
          case measure => exact HL8.out
    | true =>
      have hlt : ¬ u ≤ val := fun h => hge ⟨rfl, h⟩
      clear hge
      have hx2 := (ext_block HE2.out (block_lt HX.out)).trans HX.out
      have hblk2 := (ext_block HE2.out (block_lt HBLK.out)).trans HBLK.out
      have HX2 := Lib.hid hx2
      have HBLK2 := Lib.hid hblk2
      have HP2 := Lib.hid (mapG_ext HP.out HE2.out)
      have HO2 := Lib.hid (mapG_ext HO.out HE2.out)
      have HS2 := Lib.hid (mapG_ext HS.out HE2.out)
      have q5 := block_cell hblk2 5
      have l0 := block_lt hblk2
      have x0 := block_cell hx2 0
      have x1 := block_cell hx2 1
      have x2 := block_cell hx2 2
      have lx := block_lt hx2
      clear hx2 hblk2
      have hgc := cell_grown
      go_wp2
      refine wp_region_mix [] [0, 1, 2, 3, 4, 5] [] [6] (by kernel_rfl) (by kernel_rfl) (fun _ _ d _ _ h => by cases d <;> exact h) ?_
      refine wpPre_nil ?_
      repeat (refine wpLoose_step rfl (fun K hK => ?_); (try simp only [Oper.quietAt, Oper.quietUpon]); go_simp; (refine hK _ ?_; clear hK K))
      refine wpLoose_nil (wpFresh_nil (fun w3 hE3 _ => ?_))
      try simp only [List.drop_succ_cons, List.drop_zero]
      have HE3 := Lib.hid hE3
      clear q5 l0 x0 x1 x2 lx hE3 hgc
      refine wpSeq_of_list [6] [_] _ _ rfl ?_
      refine wpList_store_G (K := kP) (E := eI) _ rfl (.tmp 27) (.tmp 28) (.tmp 29) 120 rfl Try.underlying120 rfl (mapG_ext HP2.out HE3.out) (by unfold maxLen; omega) x rfl HXO.out u rfl HUO.out (fun w4 hP4 hg4 => ?_)
      have HU4 := Lib.hid (show Upd (fun b => b = L.bb) w w4 from upd_trans (upd_of_ext (ext_trans HE0.out (ext_trans HE2.out HE3.out))) (upd_grown hg4) (fun i _ e => (Option.some.inj e).symm))
      have hU34 := upd_grown hg4
      have hxb : bx ≠ L.bb := mapG_off HP2.out HX2.out
      have hpb : L.pf ≠ L.bb := mapG_off HP2.out HBLK2.out
      have hx4 := (hU34.block bx (ext_lt HE3.out (block_lt HX2.out)) (fun e => hxb (Option.some.inj e).symm)).trans ((ext_block HE3.out (block_lt HX2.out)).trans HX2.out)
      have hblk4 := (hU34.block L.pf (ext_lt HE3.out (block_lt HBLK2.out)) (fun e => hpb (Option.some.inj e).symm)).trans ((ext_block HE3.out (block_lt HBLK2.out)).trans HBLK2.out)
      have HO4 := Lib.hid (mapG_upd (mapG_ext HO2.out HE3.out) hU34 (fun e => HNE.out.1 (Option.some.inj e).symm))
      have HS4 := Lib.hid (mapG_upd (mapG_ext HS2.out HE3.out) hU34 (fun e => HNE.out.2 (Option.some.inj e).symm))
      have HJ4 := Lib.hid (HJ0.out HGE.out w4 HU4.out ⟨_, hP4⟩)
      have HX4 := Lib.hid hx4
      have HBLK4 := Lib.hid hblk4
      have HXB := Lib.hid (And.intro hxb hpb)
      clear hP4 hg4 hU34 hxb hpb HX2 HBLK2 HP2 HO2 HS2
      have q4 := block_cell hblk4 4
      have l0 := block_lt hblk4
      have x0 := block_cell hx4 0
      have x1 := block_cell hx4 1
      have x2 := block_cell hx4 2
      have lx := block_lt hx4
      have hlk : ∀ (d : Nat) (os : Array Obj), (Instr.lookup 119 (.map (some L.bo)) (.int .i64 x.b) false).run Try.prog (grow (redrawn w4 d) os) = .ok (.map (some sb)) (grow (redrawn w4 d) os) := fun d os => by
        have h3 := look_G Try.underlying119 (mapG_ext HO4.out (ext_grow (ext_refl _) d os)) (x := x.b) HXO.out.2.1
        rw [HSB.out] at h3
        exact h3
      clear hx4 hblk4
      have hgc := cell_grown
      go_wp2
      refine wp_region_mix [] [0, 1, 2, 3, 4, 5, 6] [] [7] (by kernel_rfl) (by kernel_rfl) (fun _ _ d _ _ h => by cases d <;> exact h) ?_
      refine wpPre_nil ?_
      repeat (refine wpLoose_step rfl (fun K hK => ?_); (try simp only [Oper.quietAt, Oper.quietUpon]); go_simp; (refine hK _ ?_; clear hK K))
      refine wpLoose_nil (wpFresh_nil (fun w5 hE5 _ => ?_))
      try simp only [List.drop_succ_cons, List.drop_zero]
      have HE5 := Lib.hid hE5
      clear q4 l0 x0 x1 x2 lx hE5 hgc hlk
      refine wpSeq_of_list [7] [_] _ _ rfl ?_
      refine wpList_range_G (K := kK) (E := eB) _ rfl (.tmp 36) 128 rfl Try.underlying128 rfl (mapG_ext HS4.out HE5.out) (fun w6 r hr hR6 hE6 _ => ?_)
      have HE46 := Lib.hid (ext_trans HE5.out hE6)
      have HR6 := Lib.hid hR6
      have HLR := Lib.hid (show w.heap.size ≤ r by rw [hr]; have := HU4.out.size; have := ext_size HE5.out; omega)
      clear hR6 hE6 hr
      go_simp
      go_wp2
      have HUE := Lib.hid (show ∀ w1 w2 : World, Ext w1 w2 → Upd (fun b => b = L.bb) w1 w2 from fun _ _ h => upd_of_ext h)
      go_loopw [8] (fun _ wn => ∃ done : List Key, RngG kK eB sb r NS fs done wn ∧ J done wn ∧ Upd (fun b => b = L.bb) w wn ∧ wn.heap[bx]? = some (.cells #[.int .i64 x.a, .int .i64 x.b, .int .i64 x.c] 124 (0, 0))) (fun _ wn => wn.rangeLeft sb r)
      case atStart => exact ⟨[], HR6.out, HJE.out _ w4 w6 r HJ4.out HLR.out (upd_of_ext HE46.out), upd_trans HU4.out (upd_of_ext HE46.out) (fun _ _ h => h), (ext_block HE46.out (block_lt HX4.out)).trans HX4.out⟩
      case round =>
        rename World => wn
        obtain ⟨done, hR, hJ, hU, hX⟩ := hrel
        have HR := Lib.hid hR
        have HJ := Lib.hid hJ
        have HU := Lib.hid hU
        have HXN := Lib.hid hX
        clear hR hJ hU hX
        go_wp2_with (first
          | (at_next; refine wpList_next_V wn rfl _ rfl rfl HR.out ?_ ?_)
          | go_in)
        · intro hall
          have HALL := Lib.hid hall
          clear hall
          go_wp2
          go_end0
          exact ⟨rfl, .inr ⟨HGE.out, done, HALL.out, HJ.out, HU.out⟩⟩
        · intro k cv w7 hfk hnk hR7 hlt7 hg7 hs7 hen
          rw [show kK.val k = .agg #[.int .i64 k.a, .int .i64 k.b, .int .i64 k.c] from rfl] at hen ⊢
          have hU7 := upd_grown hg7
          have hrx : r ≠ bx := fun e => (rngG_off HR.out HXN.out).2 e.symm
          have hrb : r ≠ L.bb := fun e => by
            have h5 := mapG_lt HP.out
            have h6 := ext_size HE0.out
            have h7 := HLR.out
            have h8 : L.bb < w.heap.size := HBBL.out
            omega
          obtain ⟨wa, hwa⟩ : ∃ x, x = w7.alloc (.cells #[.int .i64 k.a, .int .i64 k.b, .int .i64 k.c] 85) := ⟨_, rfl⟩
          have hEa : Ext w7 wa := by rw [hwa]; exact ext_alloc (ext_refl _) _
          have hJa := HJE.out done w7 wa r (HJE.out done wn w7 r HJ.out HLR.out (upd_mono hU7 (fun i _ e => (Option.some.inj e).symm))) HLR.out (upd_of_ext hEa)
          have hUa : Upd (fun b => b = L.bb) w wa := upd_trans (upd_trans HU.out hU7 (fun i hi e => absurd hi (by have h5 : r = i := Option.some.inj e; have := HLR.out; omega))) (upd_of_ext (fp := fun _ => False) hEa) (fun _ _ h => h.elim)
          have hxa := (ext_block hEa (Nat.lt_of_lt_of_le (block_lt HXN.out) hU7.size)).trans ((hU7.block bx (block_lt HXN.out) (fun e => hrx (Option.some.inj e))).trans HXN.out)
          have HRA := Lib.hid (rngG_ext hR7 hEa)
          have HLA := Lib.hid (show wa.rangeLeft sb r < wn.rangeLeft sb r by rw [left_ext hR7 hEa]; exact hlt7)
          have hcall := HJA.out HGE.out k done wa hfk hnk hJa hUa
          have HCA := Lib.hid hcall
          have HUA := Lib.hid hUa
          have HXA := Lib.hid hxa
          have HRB := Lib.hid hrb
          have x0 : w7.cell? ⟨bx, 0, none⟩ = some (.int .i64 x.a) := block_cell ((hU7.block bx (block_lt HXN.out) (fun e => hrx (Option.some.inj e))).trans HXN.out) 0
          have x1 : w7.cell? ⟨bx, 1, none⟩ = some (.int .i64 x.b) := block_cell ((hU7.block bx (block_lt HXN.out) (fun e => hrx (Option.some.inj e))).trans HXN.out) 1
          have x2 : w7.cell? ⟨bx, 2, none⟩ = some (.int .i64 x.c) := block_cell ((hU7.block bx (block_lt HXN.out) (fun e => hrx (Option.some.inj e))).trans HXN.out) 2
          have lx : bx < w7.heap.size := Nat.lt_of_lt_of_le (block_lt HXN.out) hU7.size
          clear hfk hnk hR7 hlt7 hg7 hs7 hJa hUa hxa hcall hU7 hrx hrb hEa
          go_wp2_with fail
          rw [← hwa]
          clear hwa hen x0 x1 x2 lx
          refine HCA.out.mono ?_
          rintro e w8 ⟨rfl, hJ8, hU8⟩
          have HJ8 := Lib.hid hJ8
          have HU8 := Lib.hid (upd_trans HUA.out hU8 (fun _ _ h => h))
          have HR8 := Lib.hid (rngG_upd HRA.out hU8 HNE.out.2 HRB.out)
          have HL8 := Lib.hid (show w8.rangeLeft sb r < wn.rangeLeft sb r by rw [left_upd HRA.out hU8 HNE.out.2 HRB.out]; exact HLA.out)
          have HX8 := Lib.hid ((hU8.block bx (block_lt HXA.out) HXB.out.1).trans HXA.out)
          clear hJ8 hU8
          go_wp2
          go_roundw
          case rel => exact ⟨done ++ [k], HR8.out, HJ8.out, HU8.out, HX8.out⟩
          case measure => exact HL8.out
end Go.Proofs.Ytiabmdboacpmcaa
/- keep: what it leaves. -/
namespace Go.Proofs.Ytiabmdboacpmcaa
open Go Go.RowKit Go.Sort
set_option maxHeartbeats 1000000

theorem keep_any (c : Env) (G : GoodE c) (n : Nat) (HA : ∀ m, m < n → AlongAt c m) : KeepAt c n := by
  intro x u f w hfs hb hg hx hu hd
  obtain ⟨hxok, hsb⟩ := G.okP x hx
  obtain ⟨sb, hsb⟩ := Option.isSome_iff_exists.1 hsb
  obtain ⟨NP, hNP, hP⟩ := best_bound hb.1 hb.2
  have hbb : c.L.bb < w.heap.size := mapG_lt hP
  refine (keep_walk c.L c.room c.h c.S x u f (subF c.E x.b) sb NP w
    (fun done w1 => ∃ g, c.best g w1 ∧ Visit c.A c.E u (putB f x u) g ∧ ∀ k ∈ done, ∀ t z, c.E k = some t → Succ c.A x k z → geO (g z) (min u t))
    hfs.blk hfs.out hsb (hfs.sub _ _ hsb) hP (by have := G.len; omega) ⟨hfs.ne.2.2, (hfs.sne _ _ hsb).2.2⟩ hxok (G.okV u hu)
    (fun hge w1 hU hP1 => ?_) (fun done w1 w2 r hJ hr hU => ?_) (fun hge k done w1 hfk hnk hJ hU => ?_)).mono ?_
  · refine ⟨putB f x u, ⟨hP1, fun y hy => ?_⟩, visit_refl .., fun k hk => (by cases hk)⟩
    unfold putB at hy
    by_cases e : y = x
    · rw [e]; exact hx
    · rw [if_neg e] at hy; exact hb.2 y hy
  · obtain ⟨g, ⟨⟨N, h1⟩, h2⟩, h3, h4⟩ := hJ
    exact ⟨g, ⟨⟨N, mapG_upd h1 hU (fun e => by have e' : c.L.bb = r := e; omega)⟩, h2⟩, h3, h4⟩
  · obtain ⟨g, h1, h2, h3⟩ := hJ
    have hEk : ∃ t, c.E k = some t := by
      unfold subF at hfk
      split at hfk
      · rename_i h; exact Option.isSome_iff_exists.1 h.1
      · cases hfk
    obtain ⟨t, ht⟩ := hEk
    have hlt : gap c.P c.V g < n := by
      have h5 := gap_mono (P := c.P) (V := c.V) h2.le
      have h6 := gap_lt (P := c.P) (V := c.V) (putB_le hge) hx hu hge ⟨u, putB_same f x u, Int.le_refl _⟩
      omega
    refine (HA _ hlt x k u t g w1 (env_fs_upd hfs hb hU) h1 (Nat.le_refl _) hx hu ht (fun hs => sound_le h2.le hs x u (putB_same f x u))).mono ?_
    rintro e w2 ⟨rfl, g2, k1, k2, k3, k4⟩
    refine ⟨rfl, ⟨g2, k1, visit_trans h2 k2, fun k' hk' t' z hz hs => ?_⟩, k4⟩
    rcases List.mem_append.1 hk' with h | h
    · exact geO_le (h3 k' h t' z hz hs) (k2.le z)
    · rw [List.mem_singleton.1 h] at hz hs
      rw [ht] at hz
      cases hz
      exact k3 z hs
  · rintro e w' ⟨rfl, h⟩
    rcases h with ⟨hge, hE⟩ | ⟨hge, done, hall, ⟨g, h1, h2, h3⟩, hU⟩
    · exact ⟨rfl, f, env_best_ext hb hE, visit_refl .., hge, upd_of_ext hE⟩
    · have hv := visit_place (x := x) (u := u) (f := f) (g := g) (putB_low hge) hd h2 (fun k t z hk hs => h3 k (hall k ?_) t z hk hs)
      · exact ⟨rfl, g, h1, hv.1, ⟨u, hv.2, Int.le_refl _⟩, hU⟩
      · unfold subF
        rw [if_pos ⟨by rw [hk]; rfl, by
          rcases hs.2 with ⟨h5, _⟩ | ⟨h5, _⟩
          · exact .inl h5
          · exact .inr h5⟩]
        rfl
end Go.Proofs.Ytiabmdboacpmcaa
