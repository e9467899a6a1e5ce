/- slices.Values: what it tells. -/
import Derived.RangeFuncNested
import Derived.RangeFuncBound
import Derived.RangeFuncCalls
import Derived.RangeFuncLeaves
import Derived.Shelf.Abstract
import Derived.Shelf.RegionOpen
import Derived.OwnWalkIn
import Derived.TacticsInMore
import Derived.LoopNIn
import Derived.LoopIn
import Derived.Test.YteccpinilpkmiaaEp
namespace Go.Proofs.Yteccpinilpkmiaa
open Go Go.RowKit Go.Sort Go.Shelf
set_option maxHeartbeats 800000
attribute [local go_sem] Oper.semAt_some

theorem yield_wide {P : Program} {m m' l : Nat} {args : Array Value} {W : World} {R : Ending → World → Prop} (h : YieldAt Fence.wide m P l args W R) : YieldAt Fence.wide m' P l args W R := by
  obtain ⟨fn, t, asg, bo, hy, hF, hR⟩ := h
  exact ⟨fn, t, asg, bo, hy, hF, fun c cs _ => hR c cs (room_wide _)⟩
def ToldPost (fp : Nat → Prop) (J Jx : List ByteArray → World → Prop) (pre : List ByteArray) (x : ByteArray) (W1 : World) (e : Ending) (W' : World) : Prop :=
  (e = .returned (.bool true) ∧ J (pre ++ [x]) W' ∧ Upd fp W1 W') ∨ (e = .returned (.bool false) ∧ Jx (pre ++ [x]) W')
theorem take_prefix {L : List ByteArray} {j : Nat} {x : ByteArray} (hx : L[j]? = some x) : L.take j ++ [x] <+: L := by
  rw [← take_snoc hx]; exact List.take_prefix _ _

theorem values1_any (l : Nat) (fp : Nat → Prop) (J Jx : List ByteArray → World → Prop) (A : Option Addr) (c b1 : Nat) (L : List ByteArray) (w : World) (hb1 : w.heap[b1]? = some (.cells #[.slice A L.length c] 22 (0, 0)))
    (h : RdS w (.slice A L.length c) L) (hm : L.length ≤ 1000000) (hfA : ∀ b off, A = some ⟨b, off, none⟩ → L ≠ [] → ¬ fp b)
    (hY : ∀ pre x W1, J pre W1 → pre ++ [x] <+: L → YieldAt Fence.wide 0 Try.prog l #[.string x] W1 (ToldPost fp J Jx pre x W1)) (h0 : J [] w) :
    Calls Try.prog 25 #[.func (.yield l) #[] #[], .pointer (some ⟨b1, 0, none⟩)] w fun e W' => (∃ v, e = .returned v) ∧ (J L W' ∨ ∃ pre, pre <+: L ∧ Jx pre W') := by
  obtain ⟨A', c', hv, _, hA⟩ := h
  simp only [Value.slice.injEq, true_and] at hv
  obtain ⟨rfl, rfl⟩ := hv
  have HA := Lib.hid hA
  have HFA := Lib.hid hfA
  have HY := Lib.hid hY
  have H0 := Lib.hid h0
  have q1 : w.cell? ⟨b1, 0, none⟩ = some (.slice A L.length c) := block_cell hb1 0
  have l1 := block_lt hb1
  clear hA hfA hY h0 hb1
  go_enter Try.func25, Try.ntmps25
  go_wp2
  clear q1 l1
  go_loopw [7] (fun x wr => ∃ j : Nat, j ≤ L.length ∧ x = .int .i64 j ∧ J (L.take j) wr ∧ Upd fp w wr) (fun x _ => L.length - (intOf x).toNat)
  case atStart => exact ⟨0, by omega, rfl, H0.out, upd_refl⟩
  case round =>
    obtain ⟨j, hj, rfl, hJ, hU⟩ := hrel
    have HJ := Lib.hid hJ
    have HU := Lib.hid hU
    clear hJ hU
    by_cases hlt : j < L.length
    · have hji : (j : Int) < (L.length : Int) := by omega
      have hj0 : (0 : Int) ≤ (j : Int) := by omega
      obtain ⟨x, hx⟩ : ∃ x, L[j]? = some x := ⟨_, List.getElem?_eq_getElem hlt⟩
      obtain ⟨b, off, hAe, hb, hca⟩ := HA.out (fun e => by rw [e] at hx; simp at hx)
      have hnb := HFA.out b off hAe (fun e => by rw [e] at hx; simp at hx)
      subst hAe
      have q0 := (upd_cell HU.out hb hnb _).trans (hca j x hx)
      have lb : b < wr.heap.size := Nat.lt_of_lt_of_le hb HU.out.size
      have HX := Lib.hid hx
      clear hx hca hb hnb
      refine (wpIn_wide (n := 3)).1 ?_
      obtain ⟨fn', tm', as', bo', hy, hR⟩ := yield_wide (m' := 2) (HY.out _ x wr HJ.out (take_prefix HX.out))
      have HR := Lib.hid hR
      clear hR
      gi_wp2
      refine HR.out.mono ?_
      rintro e w5 (⟨rfl, hJ5, hU5⟩ | ⟨rfl, hJx⟩)
      · have HJ5 := Lib.hid hJ5
        have HU5 := Lib.hid hU5
        clear hJ5 hU5
        gi_wp2
        go_roundw
        case rel => exact ⟨j + 1, by omega, by go_num, by rw [take_snoc HX.out]; exact HJ5.out, upd_trans HU.out HU5.out (fun _ _ h => h)⟩
        case measure => simp [intOf]; omega
      · have HJX := Lib.hid hJx
        clear hJx
        gi_wp2
        refine bodyPost_ret (results_none rfl _ _ _) rfl ?_
        exact ⟨⟨_, rfl⟩, .inr ⟨_, take_prefix HX.out, HJX.out⟩⟩
    · obtain rfl : j = L.length := by omega
      go_wp2
      go_end0
      exact ⟨⟨_, rfl⟩, .inl (by have := HJ.out; rwa [List.take_length] at this)⟩
theorem grown_of_ext {W W' : World} (h : Ext W W') : W.grownBy W' none := ⟨Below.os h, Below.tape h, Below.output h, Below.size h, fun k hk _ => Below.block h k hk⟩
theorem values_seq (n : Nat) (fp : Nat → Prop) (A : Option Addr) (c b1 : Nat) (L : List ByteArray) (w : World) (hb1 : w.heap[b1]? = some (.cells #[.slice A L.length c] 22 (0, 0)))
    (h : RdS w (.slice A L.length c) L) (hm : L.length ≤ 1000000) (hfA : ∀ b off, A = some ⟨b, off, none⟩ → L ≠ [] → ¬ fp b) :
    SeqStopsK Fence.wide n Try.prog 25 #[.pointer (some ⟨b1, 0, none⟩)] (fun x : ByteArray => #[.string x]) (Upd fp) (fun xs => xs = L) (fun _ => True) L.length w := by
  intro l J Jx W hW hJ _ hY h0
  have hE : Ext w W := hW
  refine callsIn_wide.2 ?_
  refine (values1_any l fp J Jx A c b1 L W ((ext_block hE (block_lt hb1)).trans hb1) (rdS_ext h hE) hm hfA (fun pre x W1 h1 h2 => ?_) h0).mono ?_
  · have hlen : pre.length < L.length := by have := h2.length_le; simp at this; omega
    exact yield_wide (hY pre x W1 h1 hlen)
  · rintro e W' ⟨h1, h2 | ⟨pre, _, h3⟩⟩
    · exact ⟨h1, .inl ⟨_, rfl, h2⟩⟩
    · exact ⟨h1, .inr ⟨pre, trivial, h3⟩⟩
theorem zip_one (t : Array Value) (i : Tmp) (u : Value) : Array.foldl (fun (t : Array Value) (x : Tmp × Value) => t.setIfInBounds x.fst x.snd) t (#[i].zip #[u]) = t.setIfInBounds i u := by
  have : (#[i].zip #[u]) = #[(i, u)] := by simp
  rw [this]
  simp
/-- append, inside a fence -/
theorem wpListIn_append {F : Fence} {n : Nat} {P : Program} {t : TypeId} {ops : Array Oper} {rest : List Oper} {o : Oper} {a : Act} {w : World} {Q : Exit → Act → World → Prop} (hgd : o.guard = none) (s x : Operand) (ho : o.op = .call { callee := .builtin .append, args := #[s, x], argTypes := #[t, t] })
    (sv xv : Value) (hs : a.eval s = sv) (hx : a.eval x = xv) (R : Value → World → Prop) (hr : ∃ v' w', (Builtin.append_ #[t, t] o.type #[sv, xv]).run P w = .ok v' w' ∧ R v' w')
    (h : ∀ v' w', R v' w' → wpListIn F n P ops Q rest (a.put o.dst v') w') : wpListIn F n P ops Q (o :: rest) a w := by
  refine wpListIn_plain hgd fun K hK => ?_
  obtain ⟨v', w', hrun, hR⟩ := hr
  unfold Oper.wpIn
  refine ⟨?_, ?_⟩
  · simp [Oper.about, ho, resolve, Target.leads, Sem.run_pure]
  · rw [Oper.semAt_plain F _ _ (by rw [ho]; intro c hc'; cases hc')]
    simp [execOp, ho, resolve, invoke, builtin, hs, hx, hrun, Result.andThen]
    exact hK _ _ (h v' w' hR)
end Go.Proofs.Yteccpinilpkmiaa
