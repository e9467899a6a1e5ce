/- Extend. -/
import Derived.Test.YtniggdaakiofeaaTh
import Derived.Test.YtniggdaakiofeaaTz
import Derived.Test.YtniggdaakiofeaaGy
namespace Go.Proofs.Ytniggdaakiofeaa
open Go Go.RowKit Go.Sort
set_option maxHeartbeats 4000000

/-- what is told of a var of a longer row -/
def extG (U : List ByteArray) (x : List Int) (v : ByteArray) (n : Int) (u : ByteArray) : Int := if u = v then n else valN U x u
theorem eg42 (args : Array Value) (w : World) : (callFunc 42 args).run Try.prog w = .ok (.enter 42 args) w := enter_fn Try.func42 (by kernel_rfl) rfl args w
theorem extF_any (b4 b10 b3 b9 : Nat) (avv arv xv : Value) (U : List ByteArray) (R : List (List Int)) (x : List Int) (v u : ByteArray) (n : Int) (w : World) (h4 : w.heap[b4]? = some (.cells #[.string v] 9 (0, 0))) (h10 : w.heap[b10]? = some (.cells #[.int .i64 n] 3 (0, 0))) (h3 : w.heap[b3]? = some (.cells #[avv, arv] 27 (0, 0))) (h9 : w.heap[b9]? = some (.cells #[xv] 25 (0, 0)))
    (ha : TabV w (.agg #[avv, arv]) U R) (hx : RdI w xv x) (hU : RiseS U) (hu : U.length ≤ 1000000) (hlx : x.length = U.length) :
    Calls Try.prog 42 #[.string u, .pointer (some ⟨b4, 0, none⟩), .pointer (some ⟨b10, 0, none⟩), .pointer (some ⟨b3, 0, none⟩), .pointer (some ⟨b9, 0, none⟩)] w fun e w' => e = .returned (.int .i64 (extG U x v n u)) ∧ Ext w w' := by
  have C1 := Lib.hid (value_any (.agg #[avv, arv]) xv U R x u w ha hx hU hu hlx)
  obtain ⟨a1, a2⟩ := tabV_parts ha
  obtain ⟨A1, c1, rfl⟩ := rdS_form a1
  obtain ⟨A2, c2, rfl⟩ := rdW_form a2
  obtain ⟨A3, c3, rfl⟩ := rdI_form hx
  have q4 : w.cell? ⟨b4, 0, none⟩ = some (.string v) := block_cell h4 0
  have q10 : w.cell? ⟨b10, 0, none⟩ = some (.int .i64 n) := block_cell h10 0
  have q3 : w.cell? ⟨b3, 0, none⟩ = some (.slice A1 U.length c1) := block_cell h3 0
  have q3' : w.cell? ⟨b3, 1, none⟩ = some (.slice A2 R.length c2) := block_cell h3 1
  have q9 : w.cell? ⟨b9, 0, none⟩ = some (.slice A3 x.length c3) := block_cell h9 0
  have l4 := block_lt h4
  have l10 := block_lt h10
  have l3 := block_lt h3
  have l9 := block_lt h9
  obtain ⟨m, hm⟩ : ∃ m, m = valN U x u := ⟨_, rfl⟩
  unfold extG
  rw [← hm] at C1 ⊢
  clear ha hx a1 a2 h4 h10 h3 h9 hm hU hu hlx
  by_cases he : u = v
  · have hb := str_eq he
    rw [if_pos he]
    clear he
    go_enter Try.func42, Try.ntmps42
    go_wp2
    refine bodyPost_ret (results_tmp rfl _ _ _) rfl ?_
    exact ⟨rfl, ext_refl _⟩
  · have hb := str_ne he
    rw [if_neg he]
    clear he
    go_enter Try.func42, Try.ntmps42
    go_wp2_with fail
    refine C1.out.mono ?_
    rintro e w1 ⟨rfl, hE⟩
    have HE := Lib.hid hE
    clear hE
    go_wp2
    refine bodyPost_ret (results_tmp rfl _ _ _) rfl ?_
    exact ⟨rfl, HE.out⟩

/-- what tells a number of a row -/
def CbN (g : Nat) (lb : Array Value) (tv : Value) (V : List ByteArray) (R : List (List Int)) (nf : List Int → Int) (w : World) : Prop :=
  ∀ (x : List Int) (xv : Value) (w1 : World), x ∈ R → Ext w w1 → TabV w1 tv V R → RdI w1 xv x → Calls Try.prog g (#[tv, xv] ++ lb) w1 fun e w2 => e = .returned (.int .i64 (nf x)) ∧ Ext w1 w2

theorem extend_in (g : Nat) (lb : Array Value) (vv rv : Value) (V : List ByteArray) (R : List (List Int)) (v : ByteArray) (w : World) (ht : TabV w (.agg #[vv, rv]) V R) (hV : RiseS V) (hv : V.length ≤ 100000) (hr : R.length ≤ 100000) (hrl : ∀ x ∈ R, x.length = V.length) (hin : idxS V v < V.length) :
    Calls Try.prog 17 #[.agg #[vv, rv], .string v, .func (.func g) #[] lb] w fun e w' => ∃ vv rv, e = .returned (.agg #[vv, rv]) ∧ Own w.heap.size w' vv rv V R ∧ Ext w w' := by
  have HP := Lib.hid (fun w' (hE : Ext w w') => place_any (.agg #[vv, rv]) V R v w' (tabV_ext ht hE) hV (by omega))
  have HF := Lib.hid (fun w' (hE : Ext w w') => filter_all vv rv V R w' (tabV_ext ht hE) hv hr (fun x hx => by rw [hrl x hx]; exact hv))
  obtain ⟨a1, a2⟩ := tabV_parts ht
  obtain ⟨A1, c1, rfl⟩ := rdS_form a1
  obtain ⟨A2, c2, rfl⟩ := rdW_form a2
  rw [if_pos hin] at HP
  obtain ⟨k, hk⟩ : ∃ k, k = idxS V v := ⟨_, rfl⟩
  rw [← hk] at HP
  have hk0 : (0 : Int) ≤ (k : Int) := by omega
  clear ht a1 a2 hrl hin hk hV
  go_enter Try.func17, Try.ntmps17
  go_wp2_with fail
  refine (HP.out _ (ext_alloc (ext_alloc (ext_alloc (ext_refl _) _) _) _)).mono ?_
  rintro e w1 ⟨rfl, hE⟩
  obtain ⟨hE, g0, g1, g2⟩ := ext3 hE
  have q0 : w1.cell? ⟨w.heap.size, 0, none⟩ = some (.slice A1 V.length c1) := block_cell g0 0
  have q1 : w1.cell? ⟨w.heap.size, 1, none⟩ = some (.slice A2 R.length c2) := block_cell g0 1
  have l0 := block_lt g0
  have G2 := Lib.hid g2
  have HE1 := Lib.hid hE
  clear hE g0 g1 g2
  go_wp2_with fail
  refine (HF.out _ HE1.out).mono ?_
  rintro e w2 ⟨v2, r2, rfl, how, hE⟩
  have hb6 := (ext_block hE (block_lt G2.out)).trans G2.out
  have r0 : w2.cell? ⟨w.heap.size + 1 + 1, 0, none⟩ = some (.slice none 0 0) := block_cell hb6 0
  have r1 : w2.cell? ⟨w.heap.size + 1 + 1, 1, none⟩ = some (.slice none 0 0) := block_cell hb6 1
  have s0 : w2.frozen? ⟨w.heap.size + 1 + 1, 0, none⟩ = false := block_frozen hb6 0
  have s1 : w2.frozen? ⟨w.heap.size + 1 + 1, 1, none⟩ = false := block_frozen hb6 1
  have l6 := block_lt hb6
  have HS := Lib.hid (show w.heap.size + 1 + 1 < w1.heap.size from block_lt G2.out)
  have HB := Lib.hid hb6
  have HOW := Lib.hid how
  have HE2 := Lib.hid (ext_trans HE1.out hE)
  obtain ⟨A3, c3, rfl⟩ := rdS_form (rdS_row how.1.1)
  obtain ⟨A4, c4, rfl⟩ := rdW_form (own_rdW how)
  clear hE hb6 how q0 q1 l0
  go_wp2
  obtain ⟨b2, hb2⟩ : ∃ b2, b2 = w.heap.size + 1 + 1 := ⟨_, rfl⟩
  rw [← hb2] at HB HS ⊢
  obtain ⟨wf, hwf⟩ : ∃ wf, wf = (w2.setCell ⟨b2, 0, none⟩ (.slice A3 V.length c3)).setCell ⟨b2, 1, none⟩ (.slice A4 R.length c4) := ⟨_, rfl⟩
  obtain ⟨t0, t1, ho, he⟩ := fin_tab (H := w1.heap.size) (w := w) hwf HOW.out HB.out HS.out (by omega) HE2.out
  rw [← hwf]
  refine bodyPost_ret (v := .agg #[.slice A3 V.length c3, .slice A4 R.length c4]) (by simp [results, Try.results17, go_sem, t0, t1]) rfl ?_
  exact ⟨_, _, rfl, ho, he⟩

/-- what Extend's region turns: rows of strings that are new -/
def LoS (H : Nat) (w w' : World) : Prop := Upd (fun b => H ≤ b ∧ ∃ cur, w.heap[b]? = some (.cells cur 9 (0, 0))) w w'
def extRow (V : List ByteArray) (v : ByteArray) (nf : List Int → Int) (x : List Int) : List Int := rowOf (setS (V ++ [v])) (extG V x v (nf x))
structure EI (H b0 b1 b2 p : Nat) (ca : Array Value) (v : ByteArray) (VV : List ByteArray) (T : List (List Int)) (w wr : World) : Prop where
  tab : TabB H wr p VV T
  a : wr.heap[b0]? = some (.cells ca 27 (0, 0))
  s : wr.heap[b1]? = some (.cells #[.string v] 9 (0, 0))
  r : wr.heap[b2]? = some (.cells #[.slice none 0 0, .slice none 0 0] 27 (0, 0))
  size : H ≤ wr.heap.size
  ext : Ext w wr
theorem EI.more {H b0 b1 b2 p : Nat} {ca : Array Value} {v : ByteArray} {VV : List ByteArray} {T T' : List (List Int)} {w wr wa w' : World} (h : EI H b0 b1 b2 p ca v VV T w wr) (hE : Ext wr wa) (hT : TabB H w' p VV T') (hU : Upd (fun b => H ≤ b) wa w') (hb : b0 < H ∧ b1 < H ∧ b2 < H ∧ w.heap.size ≤ H) : EI H b0 b1 b2 p ca v VV T' w w' where
  tab := hT
  a := (hU.block b0 (ext_lt hE (block_lt h.a)) (by omega)).trans ((ext_block hE (block_lt h.a)).trans h.a)
  s := (hU.block b1 (ext_lt hE (block_lt h.s)) (by omega)).trans ((ext_block hE (block_lt h.s)).trans h.s)
  r := (hU.block b2 (ext_lt hE (block_lt h.r)) (by omega)).trans ((ext_block hE (block_lt h.r)).trans h.r)
  size := Nat.le_trans h.size (Nat.le_trans (ext_size hE) hU.size)
  ext := ext_upd (ext_trans h.ext hE) hU (fun b hb' => by omega)
set_option maxRecDepth 100000 in
theorem extend_out (g : Nat) (lb : Array Value) (eg : ∀ args w, (callFunc g args).run Try.prog w = .ok (.enter g args) w) (nf : List Int → Int) (vv rv : Value) (V : List ByteArray) (R : List (List Int)) (v : ByteArray) (w : World) (ht : TabV w (.agg #[vv, rv]) V R) (hV : RiseS V) (hv : V.length ≤ 100000) (hr : R.length ≤ 100000) (hrl : ∀ x ∈ R, x.length = V.length) (hin : ¬ idxS V v < V.length) (hcb : CbN g lb (.agg #[vv, rv]) V R nf w) :
    Calls Try.prog 17 #[.agg #[vv, rv], .string v, .func (.func g) #[] lb] w fun e w' => ∃ vv rv, e = .returned (.agg #[vv, rv]) ∧ Own w.heap.size w' vv rv (setS (V ++ [v])) (R.map (extRow V v nf)) ∧ Ext w w' := by
  have HP := Lib.hid (fun w' (hE : Ext w w') => place_any (.agg #[vv, rv]) V R v w' (tabV_ext ht hE) hV (by omega))
  obtain ⟨a1, a2⟩ := tabV_parts ht
  obtain ⟨A1, c1, rfl⟩ := rdS_form a1
  obtain ⟨A2, c2, rfl⟩ := rdW_form a2
  rw [if_neg hin] at HP
  have HA := Lib.hid ht
  have HA1 := Lib.hid a1
  have HA2 := Lib.hid a2
  have HRL := Lib.hid hrl
  have HCB := Lib.hid hcb
  have HVR := Lib.hid hV
  clear ht a1 a2 hrl hin hV hcb
  go_enter Try.func17, Try.ntmps17
  go_wp2_with fail
  refine (HP.out _ (ext_alloc (ext_alloc (ext_alloc (ext_refl _) _) _) _)).mono ?_
  rintro e w1 ⟨rfl, hE⟩
  obtain ⟨hE, g0, g1, g2⟩ := ext3 hE
  obtain ⟨b0, hb0⟩ : ∃ b0, b0 = w.heap.size := ⟨_, rfl⟩
  obtain ⟨b1, hb1⟩ : ∃ b1, b1 = w.heap.size + 1 := ⟨_, rfl⟩
  obtain ⟨b2, hb2⟩ : ∃ b2, b2 = w.heap.size + 1 + 1 := ⟨_, rfl⟩
  rw [← hb2, ← hb1, ← hb0]
  rw [← hb2] at g2
  rw [← hb1] at g1
  rw [← hb0] at g0
  have G0 := Lib.hid g0
  have G1 := Lib.hid g1
  have G2 := Lib.hid g2
  have HE1 := Lib.hid hE
  have HB2 := Lib.hid (show w.heap.size ≤ b2 by omega)
  clear hE g0 g1 g2 hb0 hb1 hb2
  obtain ⟨H, hH⟩ : ∃ H, H = w1.heap.size := ⟨_, rfl⟩
  have q0 : w1.cell? ⟨b0, 0, none⟩ = some (.slice A1 V.length c1) := block_cell G0.out 0
  have q1 : w1.cell? ⟨b1, 0, none⟩ = some (.string v) := block_cell G1.out 0
  have l0 := block_lt G0.out
  have l1 := block_lt G1.out
  have u0 : ∀ pw : UW (fun _ => False) w1, pw.val.cell? ⟨b0, 0, none⟩ = some (.slice A1 V.length c1) := uw_cell q0 l0 (fun h => h)
  have u1 : ∀ pw : UW (fun _ => False) w1, pw.val.cell? ⟨b1, 0, none⟩ = some (.string v) := uw_cell q1 l1 (fun h => h)
  go_wp2
  refine wp_region_loud (fp := fun _ => False) (W := w1) [] [0, 1, 3] [5] [(2, false, rowF elS H V), (4, false, oneF elS H v), (5, false, fun u w' => rowE elS w' u (V ++ [v])), (6, false, rowF elS H (setS (V ++ [v]))), (7, false, fun u w' => ∃ v6, u = .agg #[v6, .slice none 0 0] ∧ rowF elS H (setS (V ++ [v])) v6 w'), (8, true, CellF H)] [9] [2, 4, 5, 6, 7, 8] (LoS H)
    (fun w2 w3 hu hl => upd_trans hu hl (fun b hb hf => by have := hf.1; omega)) rfl (by kernel_rfl) (by kernel_rfl) (fun _ _ d _ _ h => by cases d <;> exact h) ?_
  refine wpPre_nil ?_
  repeat (refine wpU_step rfl (fun K hK => ?_); (try simp only [Oper.quietAt, Oper.quietUpon]); go_simp; (refine hK _ ?_; clear hK K))
  refine wpU_nil ?_
  have HH := Lib.hid hH
  clear q0 q1 l0 l1 u0 u1 hH
  refine wpGy_step rfl rfl rfl rowF_ext (fun h => by cases h) (fun w6 hU6 hS6 => ?_) (fun v2 => ?_)
  · have hE6 := ext_of_upd hU6
    simp only [runsAt]
    go_simp
    refine (cloneS_any _ V w6 (rdS_ext HA1.out (ext_trans HE1.out hE6)) (by omega)).mono ?_
    rintro e w7 ⟨v', rfl, h3, h4⟩
    exact ⟨_, rfl, h4, rowF_low h3 (by rw [HH.out]; exact ext_size hE6)⟩
  refine wpGy_step rfl rfl rfl oneF_ext (fun h => by cases h) (fun w6 hU6 hS6 => ?_) (fun v4 => ?_)
  · have hE6 := ext_of_upd hU6
    simp only [runsAt]
    go_simp
    exact ⟨ext_alloc (ext_refl _) _, _, rfl, by rw [HH.out]; exact ext_size hE6, heap_alloc_new w6 _⟩
  refine wpGy_loud rfl rfl rfl (fun v a b hE h => rowE_ext h hE) (fun h => by cases h) (fun w6 hU6 hS6 => ?_) (fun v5 => ?_)
  · have hE6 := ext_of_upd hU6
    have h4 : oneF elS H v v4 w6 := hS6 _ (List.mem_cons_self ..) (by kernel_rfl)
    have h2 : rowF elS H V v2 w6 := hS6 _ (List.mem_cons_of_mem _ (List.mem_cons_self ..)) (by kernel_rfl)
    refine runs_append (sv := v2) (xv := v4) (.tmp 19) (.tmp 21) rfl rfl rfl ?_
    obtain ⟨v', w', hrun, hr, hg⟩ := append_onto tpS 22 H v2 v4 V [v] w6 h2 (srcOf_one h4) (by simp; omega) (by rw [HH.out]; exact ext_size hE6)
    exact ⟨v', w', hrun, upd_mono (upd_grown hg) (fun b hb e => ⟨h2.2 b e, (rowE_block h2.1 e).2⟩), hr.1⟩
  refine wpGy_step rfl rfl rfl rowF_ext (fun h => by cases h) (fun w6 hU6 hS6 => ?_) (fun v6 => ?_)
  · have hE6 := ext_of_upd hU6
    have h5 : rowE elS w6 v5 (V ++ [v]) := hS6 _ (List.mem_cons_self ..) (by kernel_rfl)
    simp only [runsAt]
    go_simp
    refine (vars_any v5 (V ++ [v]) w6 (rdS_row h5) (by simp; omega)).mono ?_
    rintro e w7 ⟨v', rfl, h3, h4⟩
    exact ⟨_, rfl, h4, rowF_low h3 (by rw [HH.out]; exact ext_size hE6)⟩
  refine wpGy_step rfl rfl rfl (fun v a b hE ⟨v6, e, h⟩ => ⟨v6, e, rowF_ext _ _ _ hE h⟩) (fun h => by cases h) (fun w6 hU6 hS6 => ?_) (fun v7 => ?_)
  · have h6 : rowF elS H (setS (V ++ [v])) v6 w6 := hS6 _ (List.mem_cons_self ..) (by kernel_rfl)
    obtain ⟨A6, c6, rfl⟩ := rowE_form h6.1
    simp only [runsAt]
    go_simp
    exact ext_refl _
  refine wpGy_step rfl rfl rfl cellF_ext (fun _ v a b hu hl ⟨q, e, h1, h2⟩ => ⟨q, e, h1, (hl.block q (block_lt h2) (fun ⟨_, cur, hc⟩ => by rw [h2] at hc; simp at hc)).trans h2⟩) (fun w6 hU6 hS6 => ?_) (fun v8 => ?_)
  · have hE6 := ext_of_upd hU6
    simp only [runsAt]
    go_simp
    exact ⟨ext_alloc (ext_refl _) _, _, rfl, by rw [HH.out]; exact ext_size hE6, heap_alloc_new w6 _⟩
  refine wpGy_nil (fun w6 hU6 hS6 => ?_)
  obtain ⟨p, rfl, hp, hq⟩ := hS6 _ (List.mem_cons_self ..) (by kernel_rfl)
  obtain ⟨v6', rfl, h6⟩ := hS6 _ (List.mem_cons_of_mem _ (List.mem_cons_self ..)) (by kernel_rfl)
  obtain ⟨A6, c6, rfl⟩ := rowE_form h6.1
  have HE6 := Lib.hid (ext_of_upd hU6)
  have H6 := Lib.hid h6
  have HQ := Lib.hid hq
  have HPH := Lib.hid hp
  have r0 : w6.cell? ⟨p, 0, none⟩ = some (.slice none 0 0) := block_cell hq 0
  have r1 : w6.cell? ⟨p, 1, none⟩ = some (.slice none 0 0) := block_cell hq 1
  have s0 : w6.frozen? ⟨p, 0, none⟩ = false := block_frozen hq 0
  have s1 : w6.frozen? ⟨p, 1, none⟩ = false := block_frozen hq 1
  have lp := block_lt hq
  have hpl : b0 ≠ p := by have := block_lt G0.out; have := HH.out; omega
  have hb06 := (ext_block (ext_of_upd hU6) (block_lt G0.out)).trans G0.out
  have z1 : ∀ u0 u1, ((w6.setCell ⟨p, 0, none⟩ u0).setCell ⟨p, 1, none⟩ u1).cell? ⟨b0, 1, none⟩ = some (.slice A2 R.length c2) := fun u0 u1 => (upd_cell (upd_trans (fp := fun b => b = p) (upd_setCell (w := w6) (a := ⟨p, 0, none⟩) u0) (upd_setCell (a := ⟨p, 1, none⟩) u1) (fun _ _ h => h)) (block_lt hb06) hpl 1).trans (block_cell hb06 1)
  have l0 := block_lt hb06
  clear hS6 hU6 h6 hq hp hpl hb06
  refine wpSeq_of_list [9] [_] _ _ rfl ?_
  go_wp2
  obtain ⟨VV, hVV⟩ : ∃ VV, VV = setS (V ++ [v]) := ⟨_, rfl⟩
  rw [← hVV] at H6 ⊢
  obtain ⟨W2, hW2⟩ : ∃ W2, W2 = (w6.setCell ⟨p, 0, none⟩ (.slice A6 VV.length c6)).setCell ⟨p, 1, none⟩ (.slice none 0 0) := ⟨_, rfl⟩
  have hU2 : Upd (fun b => b = p) w6 W2 := by rw [hW2]; exact upd_trans (fp := fun b => b = p) (upd_setCell (w := w6) (a := ⟨p, 0, none⟩) _) (upd_setCell (a := ⟨p, 1, none⟩) _) (fun _ _ h => h)
  have hbp : W2.heap[p]? = some (.cells #[.slice A6 VV.length c6, .slice none 0 0] 27 (0, 0)) := by
    have := heap_setCell_at (j := 1) (u := .slice none 0 0) (heap_setCell_at (j := 0) (u := .slice A6 VV.length c6) HQ.out)
    rw [hW2]
    exact this
  have hT : TabB H W2 p VV [] := ⟨_, _, hbp, ⟨rowE_upd H6.out.1 hU2 (fun b hb (e : b = p) => rowE_off H6.out.1 HQ.out (by decide) (hb.trans (by rw [e]))), H6.out.2⟩, [], rowF_nil _ _, rfl, fun i s x hs => by simp at hs⟩
  have hE2 : Ext w1 W2 := ext_upd HE6.out hU2 (fun b hb => by have := HH.out; have := HPH.out; have : b = p := hb; omega)
  have HJ := Lib.hid (show EI H b0 b1 b2 p #[.slice A1 V.length c1, .slice A2 R.length c2] v VV ((R.take 0).map (extRow V v nf)) w W2 from ⟨hT, (ext_block hE2 (block_lt G0.out)).trans G0.out, (ext_block hE2 (block_lt G1.out)).trans G1.out, (ext_block hE2 (block_lt G2.out)).trans G2.out, by rw [HH.out]; exact ext_size hE2, ext_trans HE1.out hE2⟩)
  have HBD := Lib.hid (show b0 < H ∧ b1 < H ∧ b2 < H ∧ w.heap.size ≤ H by rw [HH.out]; exact ⟨block_lt G0.out, block_lt G1.out, block_lt G2.out, ext_size HE1.out⟩)
  have hVl : VV.length ≤ 1000000 := by rw [hVV]; have := setS_length (V ++ [v]); simp at this; omega
  have DVV := Lib.hid hVV
  rw [← hW2]
  clear r0 r1 s0 s1 lp z1 l0 hbp hT hE2 hU2 hW2 hVV HQ H6 HE6 HE1 G0 G1 G2
  go_loopw [28] (fun x wr => ∃ j : Nat, j ≤ R.length ∧ x = .int .i64 j ∧ EI H b0 b1 b2 p #[.slice A1 V.length c1, .slice A2 R.length c2] v VV ((R.take j).map (extRow V v nf)) w wr) (fun x _ => R.length - (intOf x).toNat)
  case atStart => exact ⟨0, Nat.zero_le _, rfl, HJ.out⟩
  case round =>
    rename World => wo
    obtain ⟨j, hj, rfl, hJ⟩ := hrel
    have HJ2 := Lib.hid hJ
    clear hJ HJ
    by_cases hlt : j < R.length
    · have hji : (j : Int) < (R.length : Int) := by omega
      have hj0 : (0 : Int) ≤ (j : Int) := by omega
      obtain ⟨x, hx⟩ : ∃ x, R[j]? = some x := ⟨_, List.getElem?_eq_getElem hlt⟩
      have HX := Lib.hid hx
      have hxm := List.mem_of_getElem? hx
      have HXL := Lib.hid (HRL.out x hxm)
      obtain ⟨b, o, X, d, rfl, hb, hc, hri⟩ := rdW_at (rdW_ext HA2.out HJ2.out.ext) hx
      have HRI := Lib.hid hri
      have q0 : wo.cell? ⟨b0, 0, none⟩ = some (.slice A1 V.length c1) := block_cell HJ2.out.a 0
      have q1 : wo.cell? ⟨b0, 1, none⟩ = some (.slice (some ⟨b, o, none⟩) R.length c2) := block_cell HJ2.out.a 1
      have l0 := block_lt HJ2.out.a
      have CB := Lib.hid (HCB.out x (.slice X x.length d) (wo.alloc (.cells #[.slice X x.length d] 25)) hxm (ext_trans HJ2.out.ext (ext_alloc (ext_refl _) _)) (tabV_ext HA.out (ext_trans HJ2.out.ext (ext_alloc (ext_refl _) _))) (rdI_ext hri (ext_alloc (ext_refl _) _)))
      clear hx hri hxm
      have HA3 := Lib.hid (heap_alloc_new wo (.cells #[.slice X x.length d] 25))
      have HEA := Lib.hid (ext_alloc (ext_refl wo) (.cells #[.slice X x.length d] 25))
      go_wp2_with (go_at_fn g; refine CB.out.mono ?_; rintro e w3 ⟨rfl, hE3⟩; have HE3 := Lib.hid hE3; clear hE3)
      obtain ⟨c9, hc9⟩ : ∃ c, c = wo.heap.size := ⟨_, rfl⟩
      obtain ⟨c10, hc10⟩ : ∃ c, c = w3.heap.size := ⟨_, rfl⟩
      obtain ⟨n, hn⟩ : ∃ n, n = nf x := ⟨_, rfl⟩
      obtain ⟨w4, hw4⟩ : ∃ w4, w4 = w3.alloc (.cells #[.int .i64 n] 3) := ⟨_, rfl⟩
      have hE34 : Ext w3 w4 := by rw [hw4]; exact ext_alloc (ext_refl _) _
      have hE04 := ext_trans HEA.out (ext_trans HE3.out hE34)
      have h9 := (ext_block (ext_trans HE3.out hE34) (block_lt HA3.out)).trans HA3.out
      have h10 : w4.heap[c10]? = some (.cells #[.int .i64 n] 3 (0, 0)) := by rw [hw4, hc10]; exact heap_alloc_new _ _
      rw [← hc9] at h9
      rw [← hn, ← hw4, ← hc10, ← hc9]
      have hOf : IsOf w4 42 #[.pointer (some ⟨b1, 0, none⟩), .pointer (some ⟨c10, 0, none⟩), .pointer (some ⟨b0, 0, none⟩), .pointer (some ⟨c9, 0, none⟩)] VV (extG V x v n) := fun wx hx u hu =>
        extF_any b1 c10 b0 c9 _ _ _ V R x v u n wx ((ext_block (ext_trans hE04 hx) (block_lt HJ2.out.s)).trans HJ2.out.s) ((ext_block hx (block_lt h10)).trans h10) ((ext_block (ext_trans hE04 hx) (block_lt HJ2.out.a)).trans HJ2.out.a) ((ext_block hx (block_lt h9)).trans h9) (tabV_ext HA.out (ext_trans HJ2.out.ext (ext_trans hE04 hx))) (rdI_ext HRI.out (ext_trans hE04 hx)) HVR.out (by omega) HXL.out
      refine (row_any H p 42 _ eg42 VV ((R.take j).map (extRow V v nf)) (extG V x v n) w4 (tabB_ext HJ2.out.tab hE04) hOf HPH.out (Nat.le_trans HJ2.out.size (ext_size hE04)) hVl (by rw [List.length_map, List.length_take]; omega)).mono ?_
      rintro e w5 ⟨rfl, hT5, hU5⟩
      have HJ3 := Lib.hid (HJ2.out.more hE04 hT5 hU5 HBD.out)
      have HN := Lib.hid hn
      clear hT5 hU5 hOf h9 h10 hE04 hE34 hw4 hc9 hc10 hn q0 q1 l0 hb hc
      go_wp2
      go_roundw
      case rel => exact ⟨j + 1, by omega, by go_num, by rw [List.take_add_one, HX.out, List.map_append]; have h := HJ3.out; rw [HN.out, DVV.out] at h; rw [DVV.out]; exact h⟩
      case measure => simp [intOf]; omega
    · obtain rfl : j = R.length := by omega
      rw [List.take_length] at HJ2
      obtain ⟨N, hN⟩ : ∃ N, N = R.map (extRow V v nf) := ⟨_, rfl⟩
      rw [← hN] at HJ2
      have HN := Lib.hid hN
      clear hN
      obtain ⟨vv, rv, hp, how⟩ := HJ2.out.tab
      obtain ⟨A7, c7, rfl⟩ := rdS_form (rdS_row how.1.1)
      obtain ⟨A8, c8, rfl⟩ := rdW_form (own_rdW how)
      have q0 : wo.cell? ⟨p, 0, none⟩ = some (.slice A7 VV.length c7) := block_cell hp 0
      have q1 : wo.cell? ⟨p, 1, none⟩ = some (.slice A8 N.length c8) := block_cell hp 1
      have lp := block_lt hp
      have r0 : wo.cell? ⟨b2, 0, none⟩ = some (.slice none 0 0) := block_cell HJ2.out.r 0
      have r1 : wo.cell? ⟨b2, 1, none⟩ = some (.slice none 0 0) := block_cell HJ2.out.r 1
      have s0 : wo.frozen? ⟨b2, 0, none⟩ = false := block_frozen HJ2.out.r 0
      have s1 : wo.frozen? ⟨b2, 1, none⟩ = false := block_frozen HJ2.out.r 1
      have l2 := block_lt HJ2.out.r
      have HOW := Lib.hid how
      clear hp how
      go_wp2
      obtain ⟨wf, hwf⟩ : ∃ wf, wf = (wo.setCell ⟨b2, 0, none⟩ (.slice A7 VV.length c7)).setCell ⟨b2, 1, none⟩ (.slice A8 N.length c8) := ⟨_, rfl⟩
      obtain ⟨t0, t1, ho, he⟩ := fin_tab (H := H) (w := w) hwf HOW.out HJ2.out.r HBD.out.2.2.1 HB2.out HJ2.out.ext
      rw [← hwf]
      refine bodyPost_ret (v := .agg #[.slice A7 VV.length c7, .slice A8 N.length c8]) (by simp [results, Try.results17, go_sem, t0, t1]) rfl ?_
      rw [← DVV.out, ← HN.out]
      exact ⟨_, _, rfl, ho, he⟩
end Go.Proofs.Ytniggdaakiofeaa
