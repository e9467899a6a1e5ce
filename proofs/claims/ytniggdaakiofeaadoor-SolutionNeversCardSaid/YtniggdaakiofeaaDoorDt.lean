/- strconv.Itoa, slices.Equal: the library's contracts, laid at this program; name. -/
import Derived.Shelf.LaysM
import Derived.Shelf.Strconv.Itoa3
import Derived.Shelf.Slices.Equal
import Derived.Test.YtniggdaakiofeaaDoorTy
namespace Go.Proofs.YtniggdaakiofeaaDoor
open Go Go.RowKit Go.Sort
open Go.Shelf
/- of this seat alone: 80 -/
def Tryd.laysM171_ren : Go.Shelf.Ren := ⟨fun | 171 => 80 | 243 => 88 | 246 => 103 | 283 => 111 | 284 => 112 | 285 => 113 | 286 => 114 | 129 => 101 | 317 => 117 | 318 => 118 | 319 => 119 | 320 => 120 | 337 => 121 | 338 => 122 | n => n, fun | 3 => 3 | 9 => 9 | 2 => 2 | 4 => 4 | 171 => 126 | 0 => 0 | 53 => 117 | 37 => 22 | 5 => 5 | 173 => 128 | 212 => 135 | 51 => 115 | 20 => 20 | 213 => 136 | 46 => 101 | 232 => 137 | 233 => 138 | n => n, fun | 17 => 0 | 18 => 1 | 19 => 2 | n => n⟩
theorem Tryd.laysM171 : Go.Proofs.LaysM.n171 Tryd.prog Tryd.laysM171_ren := {
  mixed := by kernel_rfl
  f129 := Tryd.func101.trans (congrArg some (by kernel_rfl))
  f171 := Tryd.func80.trans (congrArg some (by kernel_rfl))
  f243 := Tryd.func88.trans (congrArg some (by kernel_rfl))
  f246 := Tryd.func103.trans (congrArg some (by kernel_rfl))
  f283 := Tryd.func111.trans (congrArg some (by kernel_rfl))
  f284 := Tryd.func112.trans (congrArg some (by kernel_rfl))
  f285 := Tryd.func113.trans (congrArg some (by kernel_rfl))
  f286 := Tryd.func114.trans (congrArg some (by kernel_rfl))
  f317 := Tryd.func117.trans (congrArg some (by kernel_rfl))
  f318 := Tryd.func118.trans (congrArg some (by kernel_rfl))
  f319 := Tryd.func119.trans (congrArg some (by kernel_rfl))
  f320 := Tryd.func120.trans (congrArg some (by kernel_rfl))
  f337 := Tryd.func121.trans (congrArg some (by kernel_rfl))
  f338 := Tryd.func122.trans (congrArg some (by kernel_rfl))
  t0 := Tryd.underlying0
  a0 := Tryd.isAgg0
  z0 := Tryd.sizeOf0
  v0 := Tryd.zeroValue0
  t2 := Tryd.underlying2
  a2 := Tryd.isAgg2
  z2 := Tryd.sizeOf2
  v2 := Tryd.zeroValue2
  t3 := Tryd.underlying3
  a3 := Tryd.isAgg3
  z3 := Tryd.sizeOf3
  v3 := Tryd.zeroValue3
  t4 := Tryd.underlying4
  a4 := Tryd.isAgg4
  z4 := Tryd.sizeOf4
  v4 := Tryd.zeroValue4
  t5 := Tryd.underlying5
  a5 := Tryd.isAgg5
  z5 := Tryd.sizeOf5
  v5 := Tryd.zeroValue5
  t9 := Tryd.underlying9
  a9 := Tryd.isAgg9
  z9 := Tryd.sizeOf9
  v9 := Tryd.zeroValue9
  t20 := Tryd.underlying20
  a20 := Tryd.isAgg20
  z20 := Tryd.sizeOf20
  v20 := Tryd.zeroValue20
  t37 := Tryd.underlying22
  a37 := Tryd.isAgg22
  z37 := Tryd.sizeOf22
  v37 := Tryd.zeroValue22
  t46 := Tryd.underlying101
  a46 := Tryd.isAgg101
  z46 := Tryd.sizeOf101
  v46 := Tryd.zeroValue101
  t51 := Tryd.underlying115
  a51 := Tryd.isAgg115
  z51 := Tryd.sizeOf115
  v51 := Tryd.zeroValue115
  t53 := Tryd.underlying117
  a53 := Tryd.isAgg117
  z53 := Tryd.sizeOf117
  v53 := Tryd.zeroValue117
  t171 := Tryd.underlying126
  a171 := Tryd.isAgg126
  z171 := Tryd.sizeOf126
  v171 := Tryd.zeroValue126
  t173 := Tryd.underlying128
  a173 := Tryd.isAgg128
  z173 := Tryd.sizeOf128
  v173 := Tryd.zeroValue128
  t212 := Tryd.underlying135
  a212 := Tryd.isAgg135
  z212 := Tryd.sizeOf135
  v212 := Tryd.zeroValue135
  t213 := Tryd.underlying136
  a213 := Tryd.isAgg136
  z213 := Tryd.sizeOf136
  t232 := Tryd.underlying137
  a232 := Tryd.isAgg137
  z232 := Tryd.sizeOf137
  v232 := Tryd.zeroValue137
  t233 := Tryd.underlying138
  a233 := Tryd.isAgg138
  z233 := Tryd.sizeOf138
  v233 := Tryd.zeroValue138
  g17 := by kernel_rfl
  g18 := by kernel_rfl
  g19 := by kernel_rfl
  i0 := by kernel_rfl
  i2 := by kernel_rfl
  i3 := by kernel_rfl
  i4 := by kernel_rfl
  i5 := by kernel_rfl
  i9 := by kernel_rfl
  i20 := by kernel_rfl
  i37 := by kernel_rfl
  i46 := by kernel_rfl
  i51 := by kernel_rfl
  i53 := by kernel_rfl
  i171 := by kernel_rfl
  i173 := by kernel_rfl
  i212 := by kernel_rfl
  i232 := by kernel_rfl
  i233 := by kernel_rfl
  m17 := by kernel_rfl
  m18 := by kernel_rfl
  m19 := by kernel_rfl }
theorem Tryd.strconv_Itoa (n : Int) (h0 : -9223372036854775808 ≤ n) (h1 : n ≤ 9223372036854775807) (w : World) (htab : Lib.TabIs Tryd.prog w "internal/strconv.uint64pow10" .u64 Lib.pow10Tab) :
    Calls Tryd.prog 80 #[.int .i64 n] w fun e w' => e = .returned (.string ⟨(Lib.itoa n).toArray⟩) ∧ ∃ k os, w' = grow (w.drewN k) os := Any.strconv_Itoa Tryd.laysM171 n h0 h1 w htab
def Tryd.lays193_ren : Go.Shelf.Ren := ⟨fun | 193 => 51 | n => n, fun | 31 => 28 | 9 => 9 | 4 => 4 | 3 => 3 | 0 => 0 | n => n, fun | n => n⟩
theorem Tryd.lays193 : Go.Proofs.Lays.n193 Tryd.prog Tryd.lays193_ren := {
  mixed := by kernel_rfl
  f193 := Tryd.func51.trans (congrArg some (by kernel_rfl))
  t0 := Tryd.underlying0
  a0 := Tryd.isAgg0
  z0 := Tryd.sizeOf0
  v0 := Tryd.zeroValue0
  t3 := Tryd.underlying3
  a3 := Tryd.isAgg3
  z3 := Tryd.sizeOf3
  v3 := Tryd.zeroValue3
  t4 := Tryd.underlying4
  a4 := Tryd.isAgg4
  z4 := Tryd.sizeOf4
  v4 := Tryd.zeroValue4
  t9 := Tryd.underlying9
  a9 := Tryd.isAgg9
  z9 := Tryd.sizeOf9
  v9 := Tryd.zeroValue9
  t31 := Tryd.underlying28
  a31 := Tryd.isAgg28
  z31 := Tryd.sizeOf28
  v31 := Tryd.zeroValue28 }
theorem Tryd.slices_Equal_string (b1 o1 n c b2 o2 m d : Nat) (xs ys : List ByteArray) (w : World) (hx : n ≤ xs.length) (hy : m ≤ ys.length) (hbig : n ≤ 9223372036854775807) (hbig2 : m ≤ 9223372036854775807) (hc1 : ∀ j, j < xs.length → w.cell? ⟨b1, o1 + j, none⟩ = some (.string (xs.getD j ByteArray.empty))) (hc2 : ∀ j, j < ys.length → w.cell? ⟨b2, o2 + j, none⟩ = some (.string (ys.getD j ByteArray.empty))) :
    Calls Tryd.prog 51 #[.slice (some ⟨b1, o1, none⟩) n c, .slice (some ⟨b2, o2, none⟩) m d] w fun e w' => e = .returned (.bool (decide (xs.take n = ys.take m))) ∧ ∃ q, w' = w.drewN q := Any.slices_Equal_string Tryd.lays193 b1 o1 n c b2 o2 m d xs ys w hx hy hbig hbig2 hc1 hc2
theorem Tryd.slices_Equal_string_empty (a1 a2 : Option Addr) (c m d : Nat) (w : World) (hbig2 : m ≤ 9223372036854775807) :
    Calls Tryd.prog 51 #[.slice a1 0 c, .slice a2 m d] w fun e w' => e = .returned (.bool (decide (m = 0))) ∧ w' = w := Any.slices_Equal_string_empty Tryd.lays193 a1 a2 c m d w hbig2

set_option maxHeartbeats 4000000
/-- the library's table of powers lies as its text lays it -/
def TabP (w : World) : Prop := Lib.TabIs Tryd.prog w "internal/strconv.uint64pow10" .u64 Lib.pow10Tab
def gTab : Nat := 0
theorem tabP_global : Tryd.prog.globalNamed "internal/strconv.uint64pow10" = some gTab := by kernel_rfl
theorem tabP_cell {w : World} (h : TabP w) : w.cell? ⟨gTab, 0, none⟩ = some (.int .u64 1) := by
  have h2 := World.var?_cell tabP_global h 0
  have h3 : (Lib.pow10Tab.map fun z => Value.int .u64 z).toArray[0]? = some (.int .u64 1) := by kernel_rfl
  rw [h3] at h2
  exact h2
theorem tabP_lt {w : World} (h : TabP w) : gTab < w.heap.size := by
  have h2 := tabP_cell h
  exact Classical.byContradiction fun hn => by
    have : w.heap[gTab]? = none := Array.getElem?_eq_none (Nat.le_of_not_lt hn)
    simp [World.cell?, this] at h2
theorem tabP_upd {fp : Nat → Prop} {w w' : World} (h : TabP w) (hU : Upd fp w w') (hn : ¬ fp gTab) : TabP w' := by
  have h1 := hU.block gTab (tabP_lt h) hn
  unfold TabP Lib.TabIs World.var? at h ⊢
  rw [tabP_global] at h ⊢
  simp only [Option.bind_some] at h ⊢
  rw [h1]
  exact h
theorem tabP_ext {w w' : World} (h : TabP w) (hE : Ext w w') : TabP w' := tabP_upd (fp := fun _ => False) h (upd_of_ext hE) (fun h => h)
theorem ext_grew (w : World) (k : Nat) (os : Array Obj) : Ext w (grow (w.drewN k) os) := ext_of_upd ⟨rfl, rfl, rfl, by simp [grow], fun i hi _ => heap_grow_old _ _ (by simpa using hi)⟩
def itoaS (n : Int) : ByteArray := ⟨(Lib.itoa n).toArray⟩
theorem itoa_any (n : Int) (w : World) (h0 : -9223372036854775808 ≤ n) (h1 : n ≤ 9223372036854775807) (hT : TabP w) :
    Calls Tryd.prog 80 #[.int .i64 n] w fun e w' => e = .returned (.string (itoaS n)) ∧ Ext w w' := by
  refine (Tryd.strconv_Itoa n h0 h1 w hT).mono ?_
  rintro e w' ⟨rfl, k, os, rfl⟩
  exact ⟨rfl, ext_grew w k os⟩
theorem equalS_any (v u : Value) (U V : List ByteArray) (w : World) (hv : RdS w v U) (hu : RdS w u V) (h1 : U.length ≤ 1000000) (h2 : V.length ≤ 1000000) :
    Calls Tryd.prog 51 #[v, u] w fun e w' => e = .returned (.bool (decide (U = V))) ∧ Ext w w' := by
  obtain ⟨A, c, rfl, hc, hA⟩ := hv
  obtain ⟨B, d, rfl, hd, hB⟩ := hu
  by_cases e1 : U = []
  · subst e1
    refine (Tryd.slices_Equal_string_empty A B c V.length d w (by omega)).mono ?_
    rintro e w' ⟨rfl, rfl⟩
    refine ⟨?_, ext_refl _⟩
    cases V <;> simp
  · by_cases e2 : V = []
    · subst e2
      obtain ⟨b, off, rfl, hb, hcell⟩ := hA e1
      have hne : (([] : List ByteArray) = U) ↔ False := ⟨fun h => e1 h.symm, fun h => h.elim⟩
      obtain ⟨n, hn⟩ : ∃ n, n = U.length := ⟨_, rfl⟩
      have hn0 : n ≠ 0 := by rw [hn]; exact fun h => e1 (List.eq_nil_of_length_eq_zero h)
      have hn1 : ((n : Int) != 0) = true := by simpa using hn0
      have hd2 : decide (U = []) = false := by simpa using e1
      rw [hd2, ← hn]
      have hnb : n ≤ 1000000 := by omega
      clear hcell hc hd hA hB e1 hne hn hn0 hd2 h1 h2
      go_enter Tryd.func51, Tryd.ntmps51
      go_wp2
      refine bodyPost_ret (results_tmp rfl _ _ _) rfl ?_
      exact ⟨rfl, ext_refl _⟩
    · obtain ⟨b, off, rfl, hb, hcell⟩ := hA e1
      obtain ⟨b', off', rfl, hb', hcell'⟩ := hB e2
      refine (Tryd.slices_Equal_string b off U.length c b' off' V.length d U V w (Nat.le_refl _) (Nat.le_refl _) (by omega) (by omega) (fun j hj => hcell j _ (stS_getD hj)) (fun j hj => hcell' j _ (stS_getD hj))).mono ?_
      rintro e w' ⟨rfl, q, rfl⟩
      exact ⟨by rw [List.take_length, List.take_length], ext_drewN _ _⟩

/-- a row's name -/
def spB : ByteArray := { data := #[32] }
def nameS (row : List Int) : ByteArray := row.foldl (fun s n => s ++ (itoaS n ++ spB)) ByteArray.empty
def nameL (row : List Int) : List UInt8 := row.flatMap fun n => Lib.itoa n ++ [32]
theorem nameL_cons (n : Int) (row : List Int) : nameL (n :: row) = Lib.itoa n ++ [32] ++ nameL row := by simp [nameL]
theorem toL_append (x y : ByteArray) : toL (x ++ y) = toL x ++ toL y := by simp [toL]
theorem name_fold : ∀ (row : List Int) (s : ByteArray), toL (row.foldl (fun s n => s ++ (itoaS n ++ spB)) s) = toL s ++ nameL row
  | [], s => by simp [nameL]
  | n :: row, s => by
    rw [List.foldl_cons, name_fold row, toL_append, toL_append, nameL_cons, List.append_assoc, List.append_assoc, List.append_assoc]
    rfl
theorem nameS_L (row : List Int) : toL (nameS row) = nameL row := by
  rw [nameS, name_fold]
  rfl
def TinyR (x : List Int) : Prop := ∀ n ∈ x, -1 ≤ n ∧ n ≤ 2
theorem itoa_tiny {n : Int} (h : -1 ≤ n ∧ n ≤ 2) : (n = -1 ∧ Lib.itoa n = [45, 49]) ∨ (n = 0 ∧ Lib.itoa n = [48]) ∨ (n = 1 ∧ Lib.itoa n = [49]) ∨ (n = 2 ∧ Lib.itoa n = [50]) := by
  rcases (show n = -1 ∨ n = 0 ∨ n = 1 ∨ n = 2 by omega) with rfl | rfl | rfl | rfl
  · exact .inl ⟨rfl, by kernel_rfl⟩
  · exact .inr (.inl ⟨rfl, by kernel_rfl⟩)
  · exact .inr (.inr (.inl ⟨rfl, by kernel_rfl⟩))
  · exact .inr (.inr (.inr ⟨rfl, by kernel_rfl⟩))
theorem nameL_inj : ∀ {x y : List Int}, TinyR x → TinyR y → nameL x = nameL y → x = y
  | [], [], _, _, _ => rfl
  | [], b :: y, _, hy, h => by
    rcases itoa_tiny (hy b (List.mem_cons_self ..)) with ⟨_, e⟩ | ⟨_, e⟩ | ⟨_, e⟩ | ⟨_, e⟩ <;> simp [nameL, e] at h
  | a :: x, [], hx, _, h => by
    rcases itoa_tiny (hx a (List.mem_cons_self ..)) with ⟨_, e⟩ | ⟨_, e⟩ | ⟨_, e⟩ | ⟨_, e⟩ <;> simp [nameL, e] at h
  | a :: x, b :: y, hx, hy, h => by
    have ih := nameL_inj (x := x) (y := y) (fun n hn => hx n (List.mem_cons_of_mem _ hn)) (fun n hn => hy n (List.mem_cons_of_mem _ hn))
    simp only [nameL, List.flatMap_cons] at h ih
    rcases itoa_tiny (hx a (List.mem_cons_self ..)) with ⟨ea, e1⟩ | ⟨ea, e1⟩ | ⟨ea, e1⟩ | ⟨ea, e1⟩ <;> rcases itoa_tiny (hy b (List.mem_cons_self ..)) with ⟨eb, e2⟩ | ⟨eb, e2⟩ | ⟨eb, e2⟩ | ⟨eb, e2⟩ <;> rw [e1, e2] at h <;> simp at h <;> rw [ea, eb, ih h]
theorem nameS_inj {x y : List Int} (hx : TinyR x) (hy : TinyR y) (h : nameS x = nameS y) : x = y := nameL_inj hx hy (by rw [← nameS_L, ← nameS_L, h])
theorem nameL_len : ∀ {x : List Int}, TinyR x → (nameL x).length ≤ 3 * x.length
  | [], _ => by simp [nameL]
  | a :: x, hx => by
    have ih := nameL_len (x := x) (fun n hn => hx n (List.mem_cons_of_mem _ hn))
    rw [nameL_cons, List.length_append, List.length_append, List.length_cons]
    rcases itoa_tiny (hx a (List.mem_cons_self ..)) with ⟨_, e⟩ | ⟨_, e⟩ | ⟨_, e⟩ | ⟨_, e⟩ <;> rw [e] <;> simp only [List.length_cons, List.length_nil] <;> omega
theorem itoa_size {n : Int} (h : -1 ≤ n ∧ n ≤ 2) : (itoaS n).size ≤ 2 := by
  have : (itoaS n).size = (Lib.itoa n).length := by simp [itoaS, ByteArray.size]
  rw [this]
  rcases itoa_tiny h with ⟨_, e⟩ | ⟨_, e⟩ | ⟨_, e⟩ | ⟨_, e⟩ <;> rw [e] <;> simp
theorem nameS_size {x : List Int} (hx : TinyR x) : (nameS x).size ≤ 3 * x.length := by
  have h := nameL_len hx
  rw [← nameS_L] at h
  simpa [toL] using h
theorem nameS_take {row : List Int} {k : Nat} {n : Int} (h : row[k]? = some n) : nameS (row.take (k + 1)) = nameS (row.take k) ++ (itoaS n ++ spB) := by
  unfold nameS
  rw [List.take_add_one, h, Option.toList_some, List.foldl_append]
  rfl
theorem name_any (v : Value) (row : List Int) (w : World) (h : RdI w v row) (ht : TinyR row) (hl : row.length ≤ 1000) (hT : TabP w) :
    Calls Tryd.prog 53 #[v] w fun e w' => e = .returned (.string (nameS row)) ∧ Ext w w' := by
  obtain ⟨A, c, rfl⟩ := rdI_form h
  have HR := Lib.hid h
  have HTI := Lib.hid ht
  have HTP := Lib.hid hT
  clear h ht hT
  go_enter Tryd.func53, Tryd.ntmps53
  go_wp2
  go_loopw [8, 3] (fun z y wr => ∃ j : Nat, j ≤ row.length ∧ z = .int .i64 j ∧ y = .string (nameS (row.take j)) ∧ Ext w wr) (fun z _ _ => row.length - (intOf z).toNat)
  case atStart => exact ⟨0, Nat.zero_le _, rfl, rfl, ext_refl _⟩
  case round =>
    rename World => wo
    obtain ⟨j, hj, rfl, rfl, hE⟩ := hrel
    have HE := Lib.hid hE
    clear hE
    by_cases hlt : j < row.length
    · have hji : (j : Int) < (row.length : Int) := by omega
      have hj0 : (0 : Int) ≤ (j : Int) := by omega
      obtain ⟨n, hn⟩ : ∃ n, row[j]? = some n := ⟨_, List.getElem?_eq_getElem hlt⟩
      obtain ⟨b, off, rfl, hb, q0⟩ := rdI_at (rdI_ext HR.out HE.out) hn
      have HN := Lib.hid (HTI.out n (List.mem_of_getElem? hn))
      have HT := Lib.hid (nameS_take hn)
      obtain ⟨s, hs⟩ : ∃ s, s = nameS (row.take j) := ⟨_, rfl⟩
      have hsz : s.size ≤ 3000 := by
        have h1 := nameS_size (x := row.take j) (fun m hm => HTI.out m (List.mem_of_mem_take hm))
        rw [hs]
        rw [List.length_take] at h1
        omega
      rw [← hs] at HT ⊢
      have hiz := itoa_size HN.out
      have hz1 : ¬ 9223372036854775807 < (itoaS n).size + 1 := by omega
      have hz2 : ¬ 9223372036854775807 < s.size + ((itoaS n).size + 1) := by omega
      clear hn hs hiz hsz
      go_wp2_with fail
      refine (itoa_any n wo (by have := HN.out; omega) (by have := HN.out; omega) (tabP_ext HTP.out HE.out)).mono ?_
      rintro e w1 ⟨rfl, hE1⟩
      have HE1 := Lib.hid (ext_trans HE.out hE1)
      clear hE1 q0 hb
      go_wp2
      go_roundw
      case rel => exact ⟨j + 1, by omega, by go_num, by rw [HT.out]; rfl, HE1.out⟩
      case measure => simp [intOf]; omega
    · obtain rfl : j = row.length := by omega
      go_wp2
      refine bodyPost_ret (results_tmp rfl _ _ _) rfl ?_
      exact ⟨by rw [List.take_length]; rfl, HE.out⟩
end Go.Proofs.YtniggdaakiofeaaDoor
