/- maps.Keys: what it tells. -/
import Derived.RangeFuncNested
import Derived.RangeFuncBound
import Derived.RangeFuncCalls
import Derived.RangeFuncLeaves
import Derived.Shelf.Abstract
import Derived.Shelf.RegionOpen
import Derived.OwnWalkIn
import Derived.TacticsInMore
import Derived.LoopNIn
import Derived.LoopIn
import Derived.Sort.MapsRangeIn
import Derived.Test.YtojgbphmkloicaaBa
namespace Go.Proofs.Ytojgbphmkloicaa
open Go Go.RowKit Go.Sort Go.Shelf
set_option maxHeartbeats 1000000
attribute [local go_sem] Oper.semAt_some

theorem yield_wide {P : Program} {m m' l : Nat} {args : Array Value} {W : World} {R : Ending → World → Prop} (h : YieldAt Fence.wide m P l args W R) : YieldAt Fence.wide m' P l args W R := by
  obtain ⟨fn, t, asg, bo, hy, hF, hR⟩ := h
  exact ⟨fn, t, asg, bo, hy, hF, fun c cs _ => hR c cs (room_wide _)⟩
theorem grown_of_ext {W W' : World} (h : Ext W W') : W.grownBy W' none := ⟨Below.os h, Below.tape h, Below.output h, Below.size h, fun k hk _ => Below.block h k hk⟩
/-- a key's row -/
def elK : El Key := ⟨fun k => [.int .i64 k.a, .int .i64 k.b, .int .i64 k.c], 3, 36, by decide, fun _ => rfl, fun x u hu => by
  rcases List.mem_cons.1 hu with rfl | hu
  · rfl
  · rcases List.mem_cons.1 hu with rfl | hu
    · rfl
    · rw [List.mem_singleton.1 hu]; rfl⟩
noncomputable def tpK : Tp Try.prog 56 elK := ⟨(Try.prog.info? 36).get (by kernel_rfl), .agg #[.int .i64 0, .int .i64 0, .int .i64 0], 24, Try.underlying56, by kernel_rfl, by kernel_rfl, by kernel_rfl, by kernel_rfl, rfl, by decide⟩
theorem rngG_walk {P : Program} {k e : TypeId} {α β : Type} [DecidableEq α] {K : KT P k α} {E : ET P e β} {b r N : Nat} {f : α → Option β} {done : List α} {w : World} (h : RngG K E b r N f done w) : ∃ o : Obj, w.heap[r]? = some o ∧ o.isWalk = true := by
  obtain ⟨D, left, cnt, h1, _⟩ := h
  exact h1.iter_walk
theorem rngG_keep {P : Program} {k e : TypeId} {α β : Type} [DecidableEq α] {K : KT P k α} {E : ET P e β} {b r N : Nat} {f : α → Option β} {done : List α} {w w' : World} (h : RngG K E b r N f done w) (hk : KeepsWalks w w') : RngG K E b r N f done w' ∧ w'.rangeLeft b r = w.rangeLeft b r := by
  obtain ⟨D, left, cnt, h1, h2, h3⟩ := h
  have h4 := h1.of_walks hk
  exact ⟨⟨D, left, cnt, h4, h2, h3⟩, h4.left_eq.trans h1.left_eq.symm⟩
section
variable {P : Program} {k e : TypeId} {α β : Type} [DecidableEq α] {K : KT P k α} {E : ET P e β} {b r N : Nat} {f : α → Option β} {done : List α}
variable {F : Fence} {n : Nat} {w : World} {ops : Array Oper} {rest : List Oper} {o : Oper} {a : Act} {Q : Exit → Act → World → Prop}
theorem wpListIn_next_G (hg : o.guard = none) (it : Operand) (hop : o.op = Op.next it false) (hit : a.eval it = .pointer (some ⟨r, 0, none⟩)) (h : RngG K E b r N f done w)
    (hDone : (∀ x, (f x).isSome = true → x ∈ done) → wpListIn F n P ops Q rest (a.put o.dst (.tuple #[.bool false])) w)
    (hMore : ∀ (x : α) (c : β) (w' : World), f x = some c → x ∉ done → RngG K E b r N f (done ++ [x]) w' → w'.rangeLeft b r < w.rangeLeft b r → w.grownBy w' (some r) → w'.heap.size = w.heap.size →
      (Instr.entry (.pointer (some ⟨r, 0, none⟩))).run P w' = .ok (.tuple #[K.val x, E.val c]) w' → wpListIn F n P ops Q rest (a.put o.dst (.tuple #[.bool true, K.val x, E.val c])) w') : wpListIn F n P ops Q (o :: rest) a w := by
  obtain ⟨D, left, cnt, h1, h2, hV, hnd, hl⟩ := h
  refine wpListIn_plain hg fun K' hK' => ?_
  unfold Oper.wpIn
  refine ⟨by simp [Oper.about, hop], ?_⟩
  rw [Oper.semAt_plain F _ _ (by rw [hop]; intro c hc'; cases hc')]
  rcases h1.next K.law o.type with ⟨h0, hlf, hrun⟩ | ⟨key, v, kl, y, w', cnt', hkey, hlk, hv, hat, hrun, hrg, hlt, hgr, hsz, hen⟩
  · simp [execOp, hop, hit, hrun, Result.andThen]
    refine hK' _ _ (hDone (fun x hx => ?_))
    obtain ⟨c, hc⟩ := Option.isSome_iff_exists.1 hx
    have h5 := hl x (hV.out x c hc)
    rw [hlf, hx] at h5
    simpa using h5.symm
  · obtain ⟨x, hx, rfl⟩ := K.inv _ _ hkey
    obtain ⟨c, hc, rfl, hyc⟩ := E.inv _ _ hv
    have ekl : kl = K.lit x := by rw [K.key x hx] at hkey; exact (Option.some.inj hkey).symm
    subst ekl
    have h5 := hl x hx
    rw [hlk] at h5
    have h6 : (f x).isSome = true ∧ x ∉ done := by simpa using h5.symm
    obtain ⟨c', hc'⟩ := Option.isSome_iff_exists.1 h6.1
    have hcc : c' = c := E.inj _ _ (by rw [← (hV.at_ x c' hc').2 (.map []), hat, hyc])
    subst hcc
    simp [execOp, hop, hit, hrun, Result.andThen]
    refine hK' _ _ (hMore x c' w' hc' h6.2 ⟨D, _, cnt', hrg, h2, hV, ?_, fun y hy => ?_⟩ (by rw [hrg.left_eq, h1.left_eq]; exact hlt) hgr hsz hen)
    · exact List.nodup_append.2 ⟨hnd, (List.nodup_cons.2 ⟨by simp, List.nodup_nil⟩), fun a ha b hb => by rw [List.mem_singleton.1 hb]; exact fun e1 => h6.2 (e1 ▸ ha)⟩
    · rw [hl y hy]
      by_cases e1 : y = x
      · subst e1
        rw [WideAt.sameKey_self (K.law.key (K.key y hy))]
        simp
      · rw [Maps.sameKey_ne (fun e2 => e1 (K.lit_inj hy hx e2))]
        simp [e1]
end
def ToldK (J Jx : List Key → World → Prop) (pre : List Key) (x : Key) (W1 : World) (e : Ending) (W' : World) : Prop :=
  (e = .returned (.bool true) ∧ J (pre ++ [x]) W' ∧ KeepsWalks W1 W') ∨ (e = .returned (.bool false) ∧ Jx (pre ++ [x]) W')

theorem keys1_any (l Bm m N : Nat) (f : Key → Option Int) (J Jx : List Key → World → Prop) (w : World) (hJ : AbidesFrom w.heap.size J) (hbm : w.heap[Bm]? = some (.cells #[.map (some m)] 52 (0, 0))) (hM : MapC m N f w)
    (hY : ∀ pre x W1, J pre W1 → pre.length < N → YieldAt Fence.wide 0 Try.prog l #[k3 x] W1 (ToldK J Jx pre x W1)) (h0 : J [] w) :
    Calls Try.prog 30 #[.func (.yield l) #[] #[], .pointer (some ⟨Bm, 0, none⟩)] w fun e W' => (∃ v, e = .returned v) ∧ ((∃ xs : List Key, xs.Nodup ∧ (∀ x, x ∈ xs ↔ (f x).isSome = true) ∧ J xs W') ∨ ∃ pre, Jx pre W') := by
  have HJ := Lib.hid hJ
  have HM := Lib.hid hM
  have HY := Lib.hid hY
  have H0 := Lib.hid h0
  have q1 : w.cell? ⟨Bm, 0, none⟩ = some (.map (some m)) := block_cell hbm 0
  have l1 := block_lt hbm
  clear hJ hM hY h0 hbm
  go_enter Try.func30, Try.ntmps30
  go_wp2_with (first
    | (at_range; refine wpList_range_G w rfl _ _ rfl Try.underlying52 rfl HM.out ?_; intro w0 r hr hrng hE0 hs0)
    | go_in)
  subst hr
  clear q1 l1
  have hJ0 := HJ.out [] w w0 none H0.out (grown_of_ext hE0) (fun r e => by cases e)
  go_frame
  go_loopw [3] (fun _ wr => ∃ done : List Key, RngG ktK etI m w.heap.size N f done wr ∧ (∀ x ∈ done, (f x).isSome = true) ∧ J done wr) (fun _ wr => wr.rangeLeft m w.heap.size)
  case atStart => exact ⟨[], hrng, (fun x hx => by cases hx), hJ0⟩
  case round =>
    obtain ⟨done, hR, hI, hD⟩ := hrel
    have HI := Lib.hid hI
    have HR := Lib.hid hR
    have HD := Lib.hid hD
    clear hR hI hD
    refine (wpIn_wide (n := 3)).1 ?_
    gi_wp2_with (first
      | (gi_at_next; refine wpListIn_next_G rfl _ rfl rfl HR.out ?_ ?_)
      | gi_in)
    · intro hall
      gi_wp2
      go_end0
      exact ⟨⟨_, rfl⟩, .inl ⟨done, rngG_nodup HR.out, fun x => ⟨HI.out x, hall x⟩, HD.out⟩⟩
    · intro x c w2 hfx hnx hR2 hlt hg2 hs2 hen
      rw [show ktK.val x = .agg #[.int .i64 x.a, .int .i64 x.b, .int .i64 x.c] from rfl, show etI.val c = .int .i64 c from rfl] at hen ⊢
      have hJ2 := HJ.out done wr w2 (some w.heap.size) HD.out hg2 (fun r e => by cases e; exact ⟨Nat.le_refl _, rngG_walk HR.out⟩)
      have HJ2 := Lib.hid hJ2
      have HR2 := Lib.hid hR2
      have HLT := Lib.hid hlt
      have HFX := Lib.hid hfx
      have HNX := Lib.hid hnx
      have hlen : done.length < N := by
        obtain ⟨L, h1, h2, h3⟩ := mapG_keys (rngG_map HR.out)
        rw [← h3]
        have h4 := nodup_sub_len (L := done ++ [x]) (M := L) (List.nodup_append.2 ⟨rngG_nodup HR.out, (List.nodup_cons.2 ⟨by simp, List.nodup_nil⟩), fun a ha b hb => by rw [List.mem_singleton.1 hb]; exact fun e1 => hnx (e1 ▸ ha)⟩) (fun y hy => (h2 y).2 (by
          rcases List.mem_append.1 hy with h | h
          · exact HI.out y h
          · rw [List.mem_singleton.1 h, hfx]; rfl))
        simp at h4
        omega
      have HLEN := Lib.hid hlen
      clear hJ2 hR2 hlt hfx hnx hlen hs2 hg2
      have hE3 := ext_alloc (ext_refl w2) (.cells #[.int .i64 x.a, .int .i64 x.b, .int .i64 x.c] 36)
      obtain ⟨fn', tm', as', bo', hy, hR⟩ := yield_wide (m' := 2) (HY.out done x _ (HJ.out done w2 _ none HJ2.out (grown_of_ext hE3) (fun r e => by cases e)) HLEN.out)
      have HR' := Lib.hid hR
      unfold k3 at hy
      clear hR hE3
      gi_wp2
      refine HR'.out.mono ?_
      rintro e w5 (⟨rfl, hJ5, hK5⟩ | ⟨rfl, hJx⟩)
      · have HJ5 := Lib.hid hJ5
        obtain ⟨hR5, hlf⟩ := rngG_keep (rngG_ext HR2.out (ext_alloc (ext_refl w2) (.cells #[.int .i64 x.a, .int .i64 x.b, .int .i64 x.c] 36))) hK5
        have HR5 := Lib.hid hR5
        have HLF := Lib.hid (hlf.trans (left_ext HR2.out (ext_alloc (ext_refl w2) _)))
        clear hJ5 hK5 hR5 hlf
        gi_wp2
        go_roundw
        case rel => exact ⟨done ++ [x], HR5.out, (fun y hy => by
          rcases List.mem_append.1 hy with h | h
          · exact HI.out y h
          · rw [List.mem_singleton.1 h, HFX.out]; rfl), HJ5.out⟩
        case measure => rw [HLF.out]; exact HLT.out
      · have HJX := Lib.hid hJx
        clear hJx
        gi_wp2
        refine bodyPost_ret (results_none rfl _ _ _) rfl ?_
        exact ⟨⟨_, rfl⟩, .inr ⟨_, HJX.out⟩⟩
end Go.Proofs.Ytojgbphmkloicaa
