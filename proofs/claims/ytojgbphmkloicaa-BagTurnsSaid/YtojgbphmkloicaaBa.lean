/- A bag in memory. -/
import Derived.Test.YtojgbphmkloicaaBr
namespace Go.Proofs.Ytojgbphmkloicaa
open Go Go.RowKit Go.Sort Go.WideMaps Go.Maps
set_option maxHeartbeats 800000

theorem laidOut : laidOutB Try.prog = true := by kernel_rfl
theorem sizeT : ∃ m, Try.prog.types.size = m + 1 := ⟨Try.prog.types.size - 1, by kernel_rfl⟩
theorem rowK : 36 < Try.prog.types.size := of_decide_eq_true (by kernel_rfl)
theorem lawK : Keyed Try.prog 36 := Keyed.of_law (deep_law_laid laidOut (m := 2) (by omega) rowK (by kernel_rfl) (by kernel_rfl))
theorem zeroI (w : World) : (zeroValue 3).run Try.prog w = .ok (.int .i64 0) w := by rw [Try.zeroValue3]
noncomputable def ktK : KT Try.prog 36 Key := ktArr3 Try.underlying36 Try.underlying3 (by kernel_rfl) (by kernel_rfl) (by kernel_rfl) sizeT lawK
noncomputable def etI : ET Try.prog 3 Int := etInt Try.underlying3 zeroI
abbrev MapC (b N : Nat) (f : Key → Option Int) (w : World) : Prop := MapG ktK etI b N f w
/-- how often each key is there -/
def cntF (ks : List Key) : Key → Option Int := fun k => if ks.count k = 0 then none else some (ks.count k : Int)
theorem cntF_nil : cntF [] = fun _ => none := by
  funext k
  unfold cntF
  rw [if_pos (by simp)]
theorem cntF_getD (ks : List Key) (k : Key) : (cntF ks k).getD 0 = (ks.count k : Int) := by
  unfold cntF
  split
  · rename_i h; rw [h]; rfl
  · rfl
theorem cntF_some {ks : List Key} {k : Key} {n : Int} : cntF ks k = some n ↔ n = (ks.count k : Int) ∧ ks.count k ≠ 0 := by
  unfold cntF
  split
  · rename_i h; simp [h]
  · rename_i h
    constructor
    · intro e; cases e; exact ⟨rfl, h⟩
    · rintro ⟨rfl, -⟩; rfl
theorem cntF_add (ks : List Key) (k : Key) : cntF (ks ++ [k]) = fun x => if x = k then some ((ks.count k : Int) + 1) else cntF ks x := by
  funext x
  unfold cntF
  by_cases e : x = k
  · subst e
    rw [if_pos rfl, if_neg (by simp)]
    simp
  · rw [if_neg e]
    have : (ks ++ [k]).count x = ks.count x := by
      rw [List.count_append, List.count_singleton]
      simp [Ne.symm e]
    rw [this]
theorem cntF_del {ks : List Key} {k : Key} : cntF (ks.erase k) = fun x => if x = k then (if ks.count k ≤ 1 then none else some ((ks.count k : Int) - 1)) else cntF ks x := by
  funext x
  unfold cntF
  by_cases e : x = k
  · subst e
    rw [if_pos rfl, List.count_erase_self]
    by_cases h : ks.count x ≤ 1
    · rw [if_pos h, if_pos (by omega)]
    · rw [if_neg h, if_neg (by omega)]
      congr 1
      omega
  · rw [if_neg e, List.count_erase_of_ne e]
theorem nodup_sub_len : ∀ {L M : List Key}, L.Nodup → (∀ x ∈ L, x ∈ M) → L.length ≤ M.length
  | [], _, _, _ => Nat.zero_le _
  | x :: L, M, hL, h => by
    obtain ⟨h1, h2⟩ := List.nodup_cons.1 hL
    have hx := h x (List.mem_cons_self ..)
    have := nodup_sub_len (M := M.erase x) h2 (fun y hy => (List.mem_erase_of_ne (a := y) (b := x) (fun (e : y = x) => h1 (by rw [← e]; exact hy))).2 (h y (List.mem_cons_of_mem _ hy)))
    rw [List.length_erase_of_mem hx] at this
    have := List.length_pos_of_mem hx
    rw [List.length_cons]
    omega
theorem cntF_bound {m N : Nat} {ks : List Key} {w : World} (h : MapC m N (cntF ks) w) : N ≤ ks.length := by
  obtain ⟨L, h1, h2, h3⟩ := mapG_keys h
  rw [← h3]
  refine nodup_sub_len h1 (fun x hx => ?_)
  have h4 := (h2 x).1 hx
  obtain ⟨c, hc⟩ := Option.isSome_iff_exists.1 h4
  exact List.count_pos_iff.1 (Nat.pos_of_ne_zero (cntF_some.1 hc).2)
theorem cnt_near {m N : Nat} {f : Key → Option Int} {ks : List Key} {k : Key} {w : World} (h : MapC m N f w) (hf : ∀ y, y ≠ k → f y = cntF ks y) : N ≤ ks.length + 1 := by
  obtain ⟨L, h1, h2, h3⟩ := mapG_keys h
  rw [← h3]
  refine nodup_sub_len (M := k :: ks) h1 (fun x hx => ?_)
  by_cases e : x = k
  · rw [e]; exact List.mem_cons_self ..
  · have h4 := (h2 x).1 hx
    rw [hf x e] at h4
    obtain ⟨c, hc⟩ := Option.isSome_iff_exists.1 h4
    exact List.mem_cons_of_mem _ (List.count_pos_iff.1 (Nat.pos_of_ne_zero (cntF_some.1 hc).2))
/-- a bucket -/
structure BkAt (w : World) (p m : Nat) (b : Bk) : Prop where
  blk : w.heap[p]? = some (.cells #[.int .i64 b.1, .map (some m), .int .i64 (b.2.length : Int)] 54 (0, 0))
  map : ∃ N, N ≤ b.2.length ∧ MapC m N (cntF b.2) w
  okt : okI b.1
  okk : ∀ k ∈ b.2, ok3 k
theorem bkAt_upd {fp : Nat → Prop} {w w' : World} {p m : Nat} {b : Bk} (h : BkAt w p m b) (hU : Upd fp w w') (hp : ¬ fp p) (hm : ¬ fp m) : BkAt w' p m b := by
  obtain ⟨N, h1, h2⟩ := h.map
  exact ⟨(hU.block p (block_lt h.blk) hp).trans h.blk, ⟨N, h1, mapG_upd h2 hU hm⟩, h.okt, h.okk⟩
/-- a bag: its buckets, where they lie (block, map); F: its own blocks -/
structure BagAt (w : World) (pb : Nat) (room : Int) (bs : List Bk) (ps : List (Nat × Nat)) (v : Value) (F : Nat → Prop) : Prop where
  blk : w.heap[pb]? = some (.cells #[v, .int .i64 room, .int .i64 (lenB bs : Int)] 47 (0, 0))
  row : rowE elBk w v (ps.map (·.1))
  len : ps.length = bs.length
  at_ : ∀ (i p m : Nat) (b : Bk), ps[i]? = some (p, m) → bs[i]? = some b → BkAt w p m b
  rise : RiseB bs
  nd1 : (ps.map (·.1)).Nodup
  nd2 : (ps.map (·.2)).Nodup
  own : F pb ∧ (∀ g, v.ownBlock = some g → F g) ∧ ∀ x ∈ ps, F x.1 ∧ F x.2
theorem bagAt_lt {w : World} {pb : Nat} {room : Int} {bs : List Bk} {ps : List (Nat × Nat)} {v : Value} {F : Nat → Prop} (h : BagAt w pb room bs ps v F) : ∀ x ∈ ps, x.1 < w.heap.size ∧ x.2 < w.heap.size := fun x hx => by
  obtain ⟨i, hi⟩ := List.getElem?_of_mem hx
  have hil := (List.getElem?_eq_some_iff.1 hi).1
  obtain ⟨b, hb⟩ : ∃ b, bs[i]? = some b := ⟨_, List.getElem?_eq_getElem (by rw [← h.len]; exact hil)⟩
  have h1 := h.at_ i x.1 x.2 b hi hb
  obtain ⟨N, _, h2⟩ := h1.map
  exact ⟨block_lt h1.blk, mapG_lt h2⟩
theorem bagAt_upd {fp : Nat → Prop} {w w' : World} {pb : Nat} {room : Int} {bs : List Bk} {ps : List (Nat × Nat)} {v : Value} {F : Nat → Prop} (h : BagAt w pb room bs ps v F) (hU : Upd fp w w') (hn : ∀ b, F b → ¬ fp b) : BagAt w' pb room bs ps v F := by
  obtain ⟨o1, o2, o3⟩ := h.own
  exact ⟨(hU.block pb (block_lt h.blk) (hn pb o1)).trans h.blk, rowE_upd h.row hU (fun b hb => hn b (o2 b hb)), h.len, fun i p m b hi hb => bkAt_upd (h.at_ i p m b hi hb) hU (hn p (o3 _ (List.mem_of_getElem? hi)).1) (hn m (o3 _ (List.mem_of_getElem? hi)).2), h.rise, h.nd1, h.nd2, h.own⟩
theorem bagAt_ext {w w' : World} {pb : Nat} {room : Int} {bs : List Bk} {ps : List (Nat × Nat)} {v : Value} {F : Nat → Prop} (h : BagAt w pb room bs ps v F) (hE : Ext w w') : BagAt w' pb room bs ps v F := bagAt_upd h (upd_of_ext (fp := fun _ => False) hE) (fun _ _ hf => hf)
theorem bagAt_own {w : World} {pb : Nat} {room : Int} {bs : List Bk} {ps : List (Nat × Nat)} {v : Value} {F F' : Nat → Prop} (h : BagAt w pb room bs ps v F) (hF : ∀ b, b < w.heap.size → F b → F' b) : BagAt w pb room bs ps v F' := by
  obtain ⟨o1, o2, o3⟩ := h.own
  have hlt := bagAt_lt h
  exact ⟨h.blk, h.row, h.len, h.at_, h.rise, h.nd1, h.nd2, hF _ (block_lt h.blk) o1, fun g hg => hF _ (rowE_block h.row hg).1 (o2 g hg), fun x hx => ⟨hF _ (hlt x hx).1 (o3 x hx).1, hF _ (hlt x hx).2 (o3 x hx).2⟩⟩
/-- a bag of elements -/
def BagM (w : World) (pb : Nat) (room : Int) (E : List Ev) (F : Nat → Prop) : Prop := ∃ bs ps v, BagAt w pb room bs ps v F ∧ E.Perm (flatB bs) ∧ ∀ b ∈ bs, b.2 ≠ []
theorem bagM_upd {fp : Nat → Prop} {w w' : World} {pb : Nat} {room : Int} {E : List Ev} {F : Nat → Prop} (h : BagM w pb room E F) (hU : Upd fp w w') (hn : ∀ b, F b → ¬ fp b) : BagM w' pb room E F := by
  obtain ⟨bs, ps, v, h1, h2⟩ := h
  exact ⟨bs, ps, v, bagAt_upd h1 hU hn, h2⟩
theorem bagM_ext {w w' : World} {pb : Nat} {room : Int} {E : List Ev} {F : Nat → Prop} (h : BagM w pb room E F) (hE : Ext w w') : BagM w' pb room E F := bagM_upd h (upd_of_ext (fp := fun _ => False) hE) (fun _ _ hf => hf)
theorem bagM_perm {w : World} {pb : Nat} {room : Int} {E E' : List Ev} {F : Nat → Prop} (h : BagM w pb room E F) (hp : E'.Perm E) : BagM w pb room E' F := by
  obtain ⟨bs, ps, v, h1, h2, h3⟩ := h
  exact ⟨bs, ps, v, h1, hp.trans h2, h3⟩
theorem len_le_lenB : ∀ {bs : List Bk}, (∀ b ∈ bs, b.2 ≠ []) → bs.length ≤ lenB bs
  | [], _ => Nat.le_refl _
  | b :: bs, h => by
    have h1 := len_le_lenB (bs := bs) (fun x hx => h x (List.mem_cons_of_mem _ hx))
    have h2 := List.length_pos_iff.2 (h b (List.mem_cons_self ..))
    simp only [lenB, List.map_cons, List.sum_cons, List.length_cons] at h1 ⊢
    omega
def thereB (bs : List Bk) (t : Int) : Bool := match bs[idxB bs t]? with | some p => decide (p.1 = t) | none => false
/-- lists, one put in, one struck -/
theorem ins_at {α : Type} {l : List α} {i : Nat} (hi : i ≤ l.length) (x : α) (j : Nat) : (l.take i ++ x :: l.drop i)[j]? = if j < i then l[j]? else if j = i then some x else l[j - 1]? := by
  have hl : (l.take i).length = i := by rw [List.length_take]; omega
  rcases Nat.lt_trichotomy j i with h | h | h
  · rw [if_pos h, List.getElem?_append_left (by omega), List.getElem?_take, if_pos h]
  · subst h
    rw [if_neg (by omega), if_pos rfl, List.getElem?_append_right (by omega), hl, Nat.sub_self]
    rfl
  · rw [if_neg (by omega), if_neg (by omega), List.getElem?_append_right (by omega), hl]
    obtain ⟨m, rfl⟩ : ∃ m, j = i + 1 + m := ⟨j - i - 1, by omega⟩
    rw [show i + 1 + m - i = m + 1 by omega, List.getElem?_cons_succ, List.getElem?_drop]
    congr 1
    omega
theorem cut_at {α : Type} {l : List α} {i j : Nat} (hi : i ≤ l.length) (k : Nat) : (l.take i ++ l.drop j)[k]? = if k < i then l[k]? else l[k - i + j]? := by
  have hl : (l.take i).length = i := by rw [List.length_take]; omega
  split
  · rename_i h
    rw [List.getElem?_append_left (by omega), List.getElem?_take, if_pos h]
  · rw [List.getElem?_append_right (by omega), hl, List.getElem?_drop]
    congr 1
    omega
theorem nodup_ins {l : List Nat} {i x : Nat} (h : l.Nodup) (hx : x ∉ l) : (l.take i ++ x :: l.drop i).Nodup := by
  have hp : (l.take i ++ x :: l.drop i).Perm (x :: l) := by
    refine List.perm_middle.trans ?_
    rw [List.take_append_drop]
  exact hp.nodup_iff.2 (List.nodup_cons.2 ⟨hx, h⟩)
theorem nodup_cut {l : List Nat} {i j : Nat} (h : l.Nodup) (hij : i ≤ j) : (l.take i ++ l.drop j).Nodup := by
  have : (l.take i ++ l.drop j).Sublist l := by
    conv => rhs; rw [← List.take_append_drop i l]
    refine List.Sublist.append (List.Sublist.refl _) ?_
    have h1 : l.drop j = (l.drop i).drop (j - i) := by rw [List.drop_drop]; congr 1; omega
    rw [h1]
    exact List.drop_sublist ..
  exact h.sublist this
theorem nodup_ix {l : List Nat} (h : l.Nodup) {i j x : Nat} (hi : l[i]? = some x) (hj : l[j]? = some x) : i = j := by
  have hi' := List.getElem?_eq_some_iff.1 hi
  have hj' := List.getElem?_eq_some_iff.1 hj
  refine Classical.byContradiction fun hne => ?_
  rcases Nat.lt_or_gt_of_ne hne with hlt | hlt
  · exact List.pairwise_iff_getElem.1 h i j hi'.1 hj'.1 hlt (hi'.2.trans hj'.2.symm)
  · exact List.pairwise_iff_getElem.1 h j i hj'.1 hi'.1 hlt (hj'.2.trans hi'.2.symm)
theorem lenB_set {bs : List Bk} {i : Nat} {t : Int} {ks ks' : List Key} (h : bs[i]? = some (t, ks)) : lenB (bs.set i (t, ks')) + ks.length = lenB bs + ks'.length := by
  rw [set_split h]
  conv => rhs; rw [split_at h]
  simp only [lenB, List.map_append, List.sum_append, List.map_cons, List.sum_cons]
  omega
theorem lenB_ins (bs : List Bk) (i : Nat) (t : Int) : lenB (bs.take i ++ (t, []) :: bs.drop i) = lenB bs := by
  conv => rhs; rw [← List.take_append_drop i bs]
  simp only [lenB, List.map_append, List.sum_append, List.map_cons, List.sum_cons, List.length_nil]
  omega
theorem flat_ins (bs : List Bk) (i : Nat) (t : Int) : flatB (bs.take i ++ (t, []) :: bs.drop i) = flatB bs := by
  rw [flatB_append, flatB_cons]
  conv => rhs; rw [← List.take_append_drop i bs, flatB_append]
  rfl
/-- a new bucket -/
theorem bagAt_ins {w : World} {pb p m : Nat} {room : Int} {bs : List Bk} {ps : List (Nat × Nat)} {v v' : Value} {F F' : Nat → Prop} {t : Int} (h : BagAt w pb room bs ps v F) (hno : ∀ b, bs[idxB bs t]? = some b → b.1 ≠ t) {w2 : World}
    (hblk : w2.heap[pb]? = some (.cells #[v', .int .i64 room, .int .i64 (lenB bs : Int)] 47 (0, 0))) (hrow : rowE elBk w2 v' (insAt (ps.map (·.1)) (idxB bs t) p))
    (hold : ∀ x ∈ ps, ∀ b, BkAt w x.1 x.2 b → BkAt w2 x.1 x.2 b) (hnew : BkAt w2 p m (t, [])) (hp : ∀ x ∈ ps, x.1 ≠ p) (hm : ∀ x ∈ ps, x.2 ≠ m) (hF : F' pb ∧ (∀ g, v'.ownBlock = some g → F' g) ∧ F' p ∧ F' m ∧ ∀ x ∈ ps, F' x.1 ∧ F' x.2) :
    BagAt w2 pb room (bs.take (idxB bs t) ++ (t, []) :: bs.drop (idxB bs t)) (ps.take (idxB bs t) ++ (p, m) :: ps.drop (idxB bs t)) v' F' := by
  have hi := idxB_le bs t
  have hi' : idxB bs t ≤ ps.length := by rw [h.len]; exact hi
  refine ⟨by rw [lenB_ins]; exact hblk, ?_, ?_, fun j p' m' b hj hb => ?_, rise_ins h.rise hno, ?_, ?_, hF.1, hF.2.1, fun x hx => ?_⟩
  · have e : insAt (ps.map (·.1)) (idxB bs t) p = (ps.take (idxB bs t) ++ (p, m) :: ps.drop (idxB bs t)).map (·.1) := by simp [insAt, List.map_take, List.map_drop]
    rw [← e]
    exact hrow
  · simp only [List.length_append, List.length_cons, List.length_take, List.length_drop]
    have := h.len
    omega
  · rw [ins_at hi'] at hj
    rw [ins_at hi] at hb
    split at hj
    · rename_i hlt
      rw [if_pos hlt] at hb
      exact hold _ (List.mem_of_getElem? hj) b (h.at_ j p' m' b hj hb)
    · rename_i hlt
      rw [if_neg hlt] at hb
      split at hj
      · rename_i he
        rw [if_pos he] at hb
        cases hj
        cases hb
        exact hnew
      · rename_i he
        rw [if_neg he] at hb
        exact hold _ (List.mem_of_getElem? hj) b (h.at_ _ p' m' b hj hb)
  · have e : (ps.take (idxB bs t) ++ (p, m) :: ps.drop (idxB bs t)).map (·.1) = (ps.map (·.1)).take (idxB bs t) ++ p :: (ps.map (·.1)).drop (idxB bs t) := by simp [List.map_take, List.map_drop]
    rw [e]
    refine nodup_ins h.nd1 (fun hm => ?_)
    obtain ⟨x, hx, e⟩ := List.mem_map.1 hm
    exact hp x hx e
  · have e : (ps.take (idxB bs t) ++ (p, m) :: ps.drop (idxB bs t)).map (·.2) = (ps.map (·.2)).take (idxB bs t) ++ m :: (ps.map (·.2)).drop (idxB bs t) := by simp [List.map_take, List.map_drop]
    rw [e]
    refine nodup_ins h.nd2 (fun hm' => ?_)
    obtain ⟨x, hx, e⟩ := List.mem_map.1 hm'
    exact hm x hx e
  · rcases List.mem_append.1 hx with hx | hx
    · exact hF.2.2.2.2 x (List.mem_of_mem_take hx)
    · rcases List.mem_cons.1 hx with rfl | hx
      · exact ⟨hF.2.2.1, hF.2.2.2.1⟩
      · exact hF.2.2.2.2 x (List.mem_of_mem_drop hx)
/-- a bucket that has turned -/
theorem bagAt_set {w w2 : World} {pb p m i : Nat} {room : Int} {bs : List Bk} {ps : List (Nat × Nat)} {v : Value} {F : Nat → Prop} {t : Int} {ks ks' : List Key} (h : BagAt w pb room bs ps v F) (hb : bs[i]? = some (t, ks)) (hp : ps[i]? = some (p, m))
    (hblk : w2.heap[pb]? = some (.cells #[v, .int .i64 room, .int .i64 (lenB (bs.set i (t, ks')) : Int)] 47 (0, 0))) (hrow : rowE elBk w2 v (ps.map (·.1)))
    (hold : ∀ p' m' b, p' ≠ p → m' ≠ m → BkAt w p' m' b → BkAt w2 p' m' b) (hnew : BkAt w2 p m (t, ks')) : BagAt w2 pb room (bs.set i (t, ks')) ps v F := by
  refine ⟨hblk, hrow, by rw [List.length_set]; exact h.len, fun j p' m' b hj hb' => ?_, rise_set hb h.rise, h.nd1, h.nd2, h.own⟩
  rw [List.getElem?_set] at hb'
  by_cases e : i = j
  · subst e
    have hi := (List.getElem?_eq_some_iff.1 hb).1
    rw [if_pos rfl, if_pos (by simpa using hi)] at hb'
    rw [hp] at hj
    cases hj
    cases hb'
    exact hnew
  · rw [if_neg e] at hb'
    refine hold p' m' b (fun e1 => e ?_) (fun e1 => e ?_) (h.at_ j p' m' b hj hb')
    · have h1 : (ps.map (·.1))[j]? = some p' := by rw [List.getElem?_map, hj]; rfl
      have h2 : (ps.map (·.1))[i]? = some p := by rw [List.getElem?_map, hp]; rfl
      rw [e1] at h1
      exact nodup_ix h.nd1 h2 h1
    · have h1 : (ps.map (·.2))[j]? = some m' := by rw [List.getElem?_map, hj]; rfl
      have h2 : (ps.map (·.2))[i]? = some m := by rw [List.getElem?_map, hp]; rfl
      rw [e1] at h1
      exact nodup_ix h.nd2 h2 h1
/-- a bucket's own blocks have turned, and the bag's -/
theorem bag_turn {w w2 : World} {pb p m i : Nat} {room : Int} {bs : List Bk} {ps : List (Nat × Nat)} {v : Value} {F : Nat → Prop} {t : Int} {ks ks' : List Key} (h : BagAt w pb room bs ps v F) (hb : bs[i]? = some (t, ks)) (hp : ps[i]? = some (p, m))
    (hU : Upd (fun b => b = m ∨ b = p ∨ b = pb) w w2) (hpc : w2.heap[p]? = some (.cells #[.int .i64 t, .map (some m), .int .i64 (ks'.length : Int)] 54 (0, 0)))
    (hbc : w2.heap[pb]? = some (.cells #[v, .int .i64 room, .int .i64 (lenB (bs.set i (t, ks')) : Int)] 47 (0, 0))) (hM : ∃ N, N ≤ ks'.length ∧ MapC m N (cntF ks') w2) (hok : ∀ k ∈ ks', ok3 k) : BagAt w2 pb room (bs.set i (t, ks')) ps v F := by
  have h0 := h.at_ i p m _ hp hb
  obtain ⟨N0, _, hm0⟩ := h0.map
  have hty : ∀ b, (b = m ∨ b = p ∨ b = pb) → ∀ cur t', w.heap[b]? = some (.cells cur t' (0, 0)) → t' = 54 ∨ t' = 47 := fun b hb' cur t' hc => by
    rcases hb' with rfl | rfl | rfl
    · exact absurd rfl (mapG_off hm0 hc)
    · rw [h0.blk] at hc
      simp only [Option.some.injEq, Obj.cells.injEq] at hc
      exact .inl hc.2.1.symm
    · rw [h.blk] at hc
      simp only [Option.some.injEq, Obj.cells.injEq] at hc
      exact .inr hc.2.1.symm
  refine bagAt_set h hb hp hbc (rowE_upd h.row hU (fun b hb' hf => ?_)) (fun p' m' b h1 h2 hB => ?_) ⟨hpc, hM, h0.okt, hok⟩
  · obtain ⟨_, cur, hc⟩ := rowE_block h.row hb'
    rcases hty b hf cur _ hc with e | e
    · exact absurd e (by decide)
    · exact absurd e (by decide)
  · obtain ⟨N, h3, h4⟩ := hB.map
    refine bkAt_upd hB hU ?_ ?_
    · rintro (e | e | e)
      · exact mapG_off hm0 hB.blk e
      · exact h1 e
      · have h5 := hB.blk
        rw [e, h.blk] at h5
        simp only [Option.some.injEq, Obj.cells.injEq] at h5
        exact absurd h5.2.1 (by decide)
    · rintro (e | e | e)
      · exact h2 e
      · exact mapG_off h4 h0.blk e.symm
      · exact mapG_off h4 h.blk e.symm
end Go.Proofs.Ytojgbphmkloicaa
