/- The document's Takes. -/
import Derived.ChangeKeysEq
import Derived.Test.YtiabmdboacpmcaaQe
import Derived.Test.YtiabmdboacpmcaaPq
namespace Go.Proofs.Ytiabmdboacpmcaa
open Go Go.RowKit Go.Sort
set_option maxHeartbeats 1000000

/-- does a path take a word? -/
noncomputable def tk (t : Tr) (u : List Sy) : Bool := @decide (Words t u) (Classical.propDecidable _)
noncomputable def tkS (ps : List Tr) (u : List Sy) : Bool := @decide (WordsSeq ps u) (Classical.propDecidable _)
theorem tk_iff (t : Tr) (u : List Sy) : tk t u = true ↔ Words t u := by unfold tk; exact @decide_eq_true_iff _ (Classical.propDecidable _)
theorem tkS_iff (ps : List Tr) (u : List Sy) : tkS ps u = true ↔ WordsSeq ps u := by unfold tkS; exact @decide_eq_true_iff _ (Classical.propDecidable _)
theorem tk_false {t : Tr} {u : List Sy} (h : ¬ Words t u) : tk t u = false := Bool.eq_false_iff.2 (fun e => h ((tk_iff t u).1 e))
theorem tkS_false {ps : List Tr} {u : List Sy} (h : ¬ WordsSeq ps u) : tkS ps u = false := Bool.eq_false_iff.2 (fun e => h ((tkS_iff ps u).1 e))
theorem not_tk {t : Tr} {u : List Sy} (h : tk t u = false) : ¬ Words t u := fun e => by rw [(tk_iff t u).2 e] at h; cases h
theorem not_tkS {ps : List Tr} {u : List Sy} (h : tkS ps u = false) : ¬ WordsSeq ps u := fun e => by rw [(tkS_iff ps u).2 e] at h; cases h

theorem eqS110 (d : Nat) (a1 b1 : Int) (a2 b2 : Bool) (w : World) : (Op.equalIn (d + 2) 110 (.agg #[.int .i64 a1, .bool a2]) (.agg #[.int .i64 b1, .bool b2])).run Try.prog w = .ok (decide ((a1, a2) = (b1, b2))) w := by
  have h3 : ∀ (x y : Int) (w : World), (Op.equalIn (d + 1) 3 (.int .i64 x) (.int .i64 y)).run Try.prog w = .ok (x == y) w := fun x y w => run_equalIn_int (P := Try.prog) w d 3 .i64 .i64 x y Try.underlying3
  have h4 : ∀ (x y : Bool) (w : World), (Op.equalIn (d + 1) 4 (.bool x) (.bool y)).run Try.prog w = .ok (x == y) w := fun x y w => by
    rw [Op.equalIn]
    simp [run_underlying Try.underlying4]
  have p0 : ∀ (w : World) (x y : Value), (part 3 #[x, y] 0).run Try.prog w = .ok x w := fun w x y => by kernel_rfl
  have p1 : ∀ (w : World) (x y : Value), (part 4 #[x, y] 1).run Try.prog w = .ok y w := fun w x y => by kernel_rfl
  have hst : Try.prog.stoodInHeld 110 = false := by kernel_rfl
  rw [Op.equalIn]
  simp only [Sem.run_bind, run_underlying Try.underlying110, Result.andThen_ok]
  simp [hst]
  simp only [p0, p1, Result.andThen_ok, h3, h4]
  by_cases e1 : a1 = b1
  · by_cases e2 : a2 = b2 <;> simp [e1, e2]
  · simp [e1]
theorem eq110 (a1 b1 : Int) (a2 b2 : Bool) (w : World) : (Op.equalIn 10000 110 (.agg #[.int .i64 a1, .bool a2]) (.agg #[.int .i64 b1, .bool b2])).run Try.prog w = .ok (decide ((a1, a2) = (b1, b2))) w := eqS110 9998 a1 b1 a2 b2 w

/-- symbols behind a place -/
theorem rdY_drop {w : World} {b off n c : Nat} {L : List Sy} (h : RdY w (.slice (some ⟨b, off, none⟩) n c) L) (k : Nat) (m c' : Nat) (hm : m = (L.drop k).length) (hc : m ≤ c') : RdY w (.slice (some ⟨b, off + k * 2, none⟩) m c') (L.drop k) := by
  obtain ⟨A', c1, h1, h2, h3⟩ := h
  simp only [Value.slice.injEq] at h1
  obtain ⟨rfl, -, -⟩ := h1
  subst hm
  refine ⟨_, c', rfl, hc, fun hne => ?_⟩
  obtain ⟨b', off', h4, h5, h6⟩ := h3 (fun e => by rw [e] at hne; simp at hne)
  simp only [Option.some.injEq, Addr.mk.injEq, and_true] at h4
  obtain ⟨rfl, rfl⟩ := h4
  refine ⟨b, off + k * 2, rfl, h5, fun i x hx => ?_⟩
  rw [List.getElem?_drop] at hx
  have := h6 (k + i) x hx
  rwa [show off + (k + i) * 2 = off + k * 2 + i * 2 by omega] at this
theorem rdY_nil0 (w : World) (A : Option Addr) (c : Nat) : RdY w (.slice A 0 c) [] := ⟨A, c, rfl, Nat.zero_le _, fun h => absurd rfl h⟩
theorem rdY_from {w : World} {A : Option Addr} {n c k : Nat} {L : List Sy} (h : RdY w (.slice A n c) L) (hk : k ≤ n) : RdY w (.slice (if c = k then A else Option.map (fun x => x.add (k * 2)) A) (n - k) (c - k)) (L.drop k) := by
  obtain ⟨A', c1, h1, h2, h3⟩ := h
  simp only [Value.slice.injEq] at h1
  obtain ⟨rfl, rfl, rfl⟩ := h1
  have hl : (L.drop k).length = L.length - k := List.length_drop
  refine ⟨_, _, by rw [hl], by rw [hl]; omega, fun hne => ?_⟩
  have hpos : L.length - k ≠ 0 := fun e => hne (List.length_eq_zero_iff.1 (by rw [hl]; exact e))
  obtain ⟨b, off, rfl, h5, h6⟩ := h3 (fun e => by rw [e] at hne; simp at hne)
  rw [if_neg (by omega)]
  refine ⟨b, off + k * 2, by rw [Option.map_some, addr_add0], h5, fun i x hx => ?_⟩
  rw [List.getElem?_drop] at hx
  have := h6 (k + i) x hx
  rwa [show off + (k + i) * 2 = off + k * 2 + i * 2 by omega] at this
/-- parts of a document's path, by their places -/
def LsL (w : World) (rb n : Nat) (ps : List Tr) (v : Value) : Prop := ∃ A c, v = .slice A ps.length c ∧ ps.length ≤ c ∧ (ps ≠ [] → ∃ g off, A = some ⟨g, off, none⟩ ∧ g < w.heap.size ∧ ∀ (j : Nat) (q : Tr), ps[j]? = some q → ∃ y : Nat, w.cell? ⟨g, off + j, none⟩ = some (.int .i64 (y : Int)) ∧ y < n ∧ Lst w rb n q y)
theorem lsL_ext {w w' : World} {rb n : Nat} {ps : List Tr} {v : Value} (h : LsL w rb n ps v) (hE : Ext w w') : LsL w' rb n ps v := by
  obtain ⟨A, c, h1, h2, h3⟩ := h
  refine ⟨A, c, h1, h2, fun hne => ?_⟩
  obtain ⟨g, off, h4, h5, h6⟩ := h3 hne
  refine ⟨g, off, h4, ext_lt hE h5, fun j q hq => ?_⟩
  obtain ⟨y, k1, k2, k3⟩ := h6 j q hq
  exact ⟨y, (ext_cell hE _ _ h5).trans k1, k2, lst_ext k3 hE⟩
theorem lsL_node {w : World} {rb n : Nat} {ps : List Tr} {A : Option Addr} {c : Nat} (hl : ∀ (j : Nat) (q : Tr), ps[j]? = some q → ∃ (g y : Nat), A = some ⟨g, 0, none⟩ ∧ g < w.heap.size ∧ w.cell? ⟨g, j, none⟩ = some (.int .i64 (y : Int)) ∧ y < n ∧ Lst w rb n q y) (hc : ps.length ≤ c) : LsL w rb n ps (.slice A ps.length c) := by
  refine ⟨A, c, rfl, hc, fun hne => ?_⟩
  obtain ⟨q0, hq0⟩ : ∃ q, ps[0]? = some q := ⟨_, List.getElem?_eq_getElem (List.length_pos_iff.2 hne)⟩
  obtain ⟨g, y, rfl, hg, _⟩ := hl 0 q0 hq0
  refine ⟨g, 0, rfl, hg, fun j q hq => ?_⟩
  obtain ⟨g', y', e, h2, h3, h4, h5⟩ := hl j q hq
  simp only [Option.some.injEq, Addr.mk.injEq, and_true] at e
  subst e
  rw [Nat.zero_add]
  exact ⟨y', h3, h4, h5⟩

def RTk (N M : Nat) : Prop := ∀ (t : Tr) (rb n x : Nat) (v : Value) (u : List Sy) (w : World), sizeT t ≤ N → u.length ≤ M → formB t = true → n ≤ 100 → Lst w rb n t x → RdY w v u → Calls Try.prog 33 #[.slice (some ⟨rb, 0, none⟩) n n, .int .i64 (x : Int), v] w fun e w' => e = .returned (.bool (tk t u)) ∧ Ext w w'
def RPk (N M : Nat) : Prop := ∀ (ps : List Tr) (rb n : Nat) (l v : Value) (u : List Sy) (w : World), ps ≠ [] → sizeL ps ≤ N → u.length ≤ M → formL ps = true → n ≤ 100 → LsL w rb n ps l → RdY w v u → Calls Try.prog 65 #[.slice (some ⟨rb, 0, none⟩) n n, l, v] w fun e w' => e = .returned (.bool (tkS ps u)) ∧ Ext w w'

theorem rpk_one {N M : Nat} (hT : RTk N M) (p : Tr) (rb n : Nat) (l v : Value) (u : List Sy) (w : World) (hN : sizeT p ≤ N) (hM : u.length ≤ M) (hF : formB p = true) (hn : n ≤ 100) (hl : LsL w rb n [p] l) (hu : RdY w v u) : Calls Try.prog 65 #[.slice (some ⟨rb, 0, none⟩) n n, l, v] w fun e w' => e = .returned (.bool (tkS [p] u)) ∧ Ext w w' := by
  obtain ⟨A, c, rfl, hc, hA⟩ := hl
  obtain ⟨g, off, rfl, lg, hA⟩ := hA (by simp)
  obtain ⟨y, hy, hyn, hly⟩ := hA 0 p rfl
  rw [Nat.add_zero] at hy
  have he : tkS [p] u = tk p u := by rw [Bool.eq_iff_iff, tkS_iff, tk_iff, wordsSeq_one]
  rw [he]
  have HT := Lib.hid hT
  have HL := Lib.hid hly
  have HU := Lib.hid hu
  have hln : ([p] : List Tr).length = 1 := rfl
  rw [hln] at hc ⊢
  clear hT hA hly hu he hln
  go_enter Try.func65, Try.ntmps65
  go_wp2_with fail
  refine (HT.out p rb n y v u _ hN hM hF hn HL.out HU.out).mono ?_
  rintro e w1 ⟨rfl, hE1⟩
  have HE1 := Lib.hid hE1
  clear hE1
  go_wp2
  refine bodyPost_ret (results_tmp rfl _ _ _) rfl ?_
  exact ⟨rfl, HE1.out⟩
theorem rpk_more {N M : Nat} (hT : RTk N M) (p q : Tr) (r : List Tr) (hP : ∀ (rb n : Nat) (l v : Value) (u : List Sy) (w : World), u.length ≤ M → n ≤ 100 → LsL w rb n (q :: r) l → RdY w v u → Calls Try.prog 65 #[.slice (some ⟨rb, 0, none⟩) n n, l, v] w fun e w' => e = .returned (.bool (tkS (q :: r) u)) ∧ Ext w w')
    (rb n : Nat) (l v : Value) (u : List Sy) (w : World) (hN : sizeT p ≤ N) (hlen : r.length ≤ 100000) (hM : u.length ≤ M) (hM0 : M ≤ 1000) (hF : formB p = true) (hn : n ≤ 100) (hl : LsL w rb n (p :: q :: r) l) (hu : RdY w v u) : Calls Try.prog 65 #[.slice (some ⟨rb, 0, none⟩) n n, l, v] w fun e w' => e = .returned (.bool (tkS (p :: q :: r) u)) ∧ Ext w w' := by
  obtain ⟨A, c, rfl, hc, hA⟩ := hl
  obtain ⟨g, off, rfl, lg, hA⟩ := hA (by simp)
  obtain ⟨y, hy, hyn, hly⟩ := hA 0 p rfl
  rw [Nat.add_zero] at hy
  have htail : ∀ c', r.length + 1 ≤ c' → LsL w rb n (q :: r) (.slice (some ⟨g, off + 1, none⟩) (r.length + 1) c') := fun c' hc' => ⟨_, c', rfl, hc', fun _ => ⟨g, off + 1, rfl, lg, fun j t ht => by
    obtain ⟨z, h1, h2⟩ := hA (j + 1) t (by simpa using ht)
    exact ⟨z, by rw [show off + 1 + j = off + (j + 1) by omega]; exact h1, h2⟩⟩⟩
  obtain ⟨A2, c2, rfl, hc2, hA2⟩ := hu
  have HU := Lib.hid (show RdY w (.slice A2 u.length c2) u from ⟨A2, c2, rfl, hc2, hA2⟩)
  have HT := Lib.hid hT
  have HP := Lib.hid hP
  have HL := Lib.hid hly
  have HTL := Lib.hid htail
  have hln : (p :: q :: r : List Tr).length = r.length + 2 := rfl
  rw [hln] at hc ⊢
  obtain ⟨m, hm⟩ : ∃ m, m = r.length + 2 := ⟨_, rfl⟩
  have hm1 : r.length + 1 = m - 1 := by omega
  rw [hm1] at HTL
  rw [← hm] at hc ⊢
  have h1 : ((m : Int) == 1) = false := by rw [beq_eq_false_iff_ne]; omega
  have hm0 : (0 : Int) < (m : Int) := by omega
  have hm2 : (1 : Int) ≤ (m : Int) := by omega
  have hmc : (m : Int) ≤ (c : Int) := by omega
  have hm3 : 2 ≤ m := by omega
  have hm4 : 0 < m := by omega
  have hm5 : 1 ≤ m := by omega
  have hm6 : 1 ≤ c := by omega
  have hc1 : c ≠ 1 := by omega
  have hc20 : (u.length : Int) ≤ (c2 : Int) := by omega
  clear hm hm1
  clear hT hP hA2 hly htail hln
  go_enter Try.func65, Try.ntmps65
  go_wp2
  go_loopw [7] (fun x wr => ∃ k : Nat, k ≤ u.length + 1 ∧ x = .int .i64 (k : Int) ∧ (∀ k', k' < k → ¬ (tk p (u.take k') = true ∧ tkS (q :: r) (u.drop k') = true)) ∧ Ext w wr) (fun x _ => u.length + 1 - (intOf x).toNat)
  case atStart => exact ⟨0, Nat.zero_le _, rfl, fun k' h => by omega, ext_refl _⟩
  case round =>
    rename World => wr
    obtain ⟨k, hk, rfl, hno, hE⟩ := hrel
    have HNO := Lib.hid hno
    have HE := Lib.hid hE
    have hy' := (ext_cell HE.out _ _ lg).trans hy
    have lg' := ext_lt HE.out lg
    clear hno hE
    by_cases hlt : k ≤ u.length
    · have hki : (k : Int) ≤ (u.length : Int) := by omega
      have hk0 : (0 : Int) ≤ (k : Int) := by omega
      have hkc : k ≤ c2 := by omega
      have hgc := cell_grown
      have hcall : ∀ W', Ext wr W' → Calls Try.prog 33 #[.slice (some ⟨rb, 0, none⟩) n n, .int .i64 (y : Int), .slice A2 k c2] W' fun e w'' => e = .returned (.bool (tk p (u.take k))) ∧ Ext W' w'' := fun W' hE' =>
        HT.out p rb n y _ (u.take k) W' hN (by rw [List.length_take]; omega) hF hn (lst_ext HL.out (ext_trans HE.out hE')) (rdY_take (rdY_ext HU.out (ext_trans HE.out hE')) hlt _ hkc)
      have hcall2 : ∀ W', Ext wr W' → Calls Try.prog 65 #[.slice (some ⟨rb, 0, none⟩) n n, .slice (some ⟨g, off + 1, none⟩) (m - 1) (c - 1), .slice (if c2 = k then A2 else Option.map (fun x => x.add (k * 2)) A2) (u.length - k) (c2 - k)] W' fun e w'' => e = .returned (.bool (tkS (q :: r) (u.drop k))) ∧ Ext W' w'' := fun W' hE' =>
        HP.out rb n _ _ (u.drop k) W' (by rw [List.length_drop]; omega) hn (lsL_ext (HTL.out _ (by omega)) (ext_trans HE.out hE')) (rdY_from (rdY_ext HU.out (ext_trans HE.out hE')) hlt)
      cases hb : tk p (u.take k) with
      | false =>
        rw [hb] at hcall
        have HB := Lib.hid hb
        have HC := Lib.hid hcall
        clear hb hcall hcall2
        go_wp2
        refine wp_region_free 17 [0, 1, 2, 3, 4, 5, 6, 7, 8, 9, 10, 11, 12, 13, 14, 15, 16] [] (by kernel_rfl) (by kernel_rfl) ?_
        repeat (refine wpLoose_step rfl (fun K hK => ?_); (try simp only [Oper.quietAt, Oper.quietUpon]); go_simp; first | (refine hK _ ?_; clear hK K) | (apply Exists.intro; refine ⟨fun p => ?_, hK _ ?_⟩; (go_at_call 33; exact HC.out _ (ext_grow (ext_refl _) _ _)); clear hK K))
        refine wpLoose_nil (wpFresh_nil (fun w3 hE3 _ => ?_))
        have HE3 := Lib.hid hE3
        clear hE3
        simp only [List.drop_succ_cons, List.drop_zero]
        refine wpList_nil ?_
        go_wp2
        go_roundw
        case rel => exact ⟨k + 1, by omega, by go_num, fun k' hk' => by
          by_cases h : k' < k
          · exact HNO.out k' h
          · obtain rfl : k' = k := by omega
            rw [HB.out]; simp, ext_trans HE.out HE3.out⟩
        case measure => simp [intOf]; omega
      | true =>
        rw [hb] at hcall
        have HB := Lib.hid hb
        have HC := Lib.hid hcall
        clear hb hcall
        cases hb2 : tkS (q :: r) (u.drop k) with
        | false =>
          rw [hb2] at hcall2
          have HB2 := Lib.hid hb2
          have HC2 := Lib.hid hcall2
          clear hb2 hcall2
          go_wp2
          refine wp_region_free 17 [0, 1, 2, 3, 4, 5, 6, 7, 8, 9, 10, 11, 12, 13, 14, 15, 16] [] (by kernel_rfl) (by kernel_rfl) ?_
          repeat (refine wpLoose_step rfl (fun K hK => ?_); (try simp only [Oper.quietAt, Oper.quietUpon]); go_simp; first | (refine hK _ ?_; clear hK K) | (apply Exists.intro; refine ⟨fun p => ?_, hK _ ?_⟩; (first | (go_at_call 33; exact HC.out _ (ext_grow (ext_refl _) _ _)) | (go_at_call 65; exact HC2.out _ (ext_grow (ext_refl _) _ _))); clear hK K))
          refine wpLoose_nil (wpFresh_nil (fun w3 hE3 _ => ?_))
          have HE3 := Lib.hid hE3
          clear hE3
          simp only [List.drop_succ_cons, List.drop_zero]
          refine wpList_nil ?_
          go_wp2
          go_roundw
          case rel => exact ⟨k + 1, by omega, by go_num, fun k' hk' => by
            by_cases h : k' < k
            · exact HNO.out k' h
            · obtain rfl : k' = k := by omega
              rw [HB2.out]; simp, ext_trans HE.out HE3.out⟩
          case measure => simp [intOf]; omega
        | true =>
          rw [hb2] at hcall2
          have HB2 := Lib.hid hb2
          have HC2 := Lib.hid hcall2
          clear hb2 hcall2
          go_wp2
          refine wp_region_free 17 [0, 1, 2, 3, 4, 5, 6, 7, 8, 9, 10, 11, 12, 13, 14, 15, 16] [] (by kernel_rfl) (by kernel_rfl) ?_
          repeat (refine wpLoose_step rfl (fun K hK => ?_); (try simp only [Oper.quietAt, Oper.quietUpon]); go_simp; first | (refine hK _ ?_; clear hK K) | (apply Exists.intro; refine ⟨fun p => ?_, hK _ ?_⟩; (first | (go_at_call 33; exact HC.out _ (ext_grow (ext_refl _) _ _)) | (go_at_call 65; exact HC2.out _ (ext_grow (ext_refl _) _ _))); clear hK K))
          refine wpLoose_nil (wpFresh_nil (fun w3 hE3 _ => ?_))
          have HE3 := Lib.hid hE3
          clear hE3
          simp only [List.drop_succ_cons, List.drop_zero]
          refine wpList_nil ?_
          go_wp2
          all_goals refine bodyPost_ret (results_tmp rfl _ _ _) rfl ?_
          all_goals exact ⟨by rw [(tkS_iff _ _).2 ((wordsSeq_cut p (q :: r) u).2 ⟨k, hlt, (tk_iff _ _).1 HB.out, (tkS_iff _ _).1 HB2.out⟩)]; rfl, ext_trans HE.out HE3.out⟩
    · have hki : ¬ (k : Int) ≤ (u.length : Int) := by omega
      go_wp2
      refine bodyPost_ret (results_tmp rfl _ _ _) rfl ?_
      exact ⟨by
        rw [tkS_false]
        · rfl
        · intro h
          obtain ⟨k', h1, h2, h3⟩ := (wordsSeq_cut p (q :: r) u).1 h
          exact HNO.out k' (by omega) ⟨(tk_iff _ _).2 h2, (tkS_iff _ _).2 h3⟩, HE.out⟩
end Go.Proofs.Ytiabmdboacpmcaa
