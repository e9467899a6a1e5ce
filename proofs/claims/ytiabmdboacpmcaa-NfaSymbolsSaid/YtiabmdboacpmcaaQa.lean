/- The document's Check. -/
import Derived.Test.YtiabmdboacpmcaaPz
namespace Go.Proofs.Ytiabmdboacpmcaa
open Go Go.RowKit Go.Sort
set_option maxHeartbeats 1000000

theorem rcheck_any (t : Tr) (rb n x : Nat) (w : World) (hN : sizeT t ≤ 100000) (hn : n ≤ 100) (hl : Lst w rb n t x) : Calls Try.prog 21 #[.slice (some ⟨rb, 0, none⟩) n n, .int .i64 (x : Int)] w fun e w' => e = .returned (.int .i64 (chk t)) ∧ Ext w w' := by
  have HL := Lib.hid hl
  have HN := Lib.hid hN
  have HC := Lib.hid (show chk t = if deepB t 40 then if 200 < sizeT t then 13 else if formB t then 0 else 1 else 15 from rfl)
  have hdd := deep_depth t 40
  have hds := depth_size t
  obtain ⟨dq, hdq⟩ : ∃ dq, dq = depthT t := ⟨_, rfl⟩
  obtain ⟨sz, hsz⟩ : ∃ sz, sz = sizeT t := ⟨_, rfl⟩
  rw [← hdq] at hdd hds
  rw [← hsz] at hds hN HC
  have HDQ := Lib.hid hdq
  have HSZ := Lib.hid hsz
  have HDD := Lib.hid hdd
  clear hdq hsz hdd hl
  go_enter Try.func21, Try.ntmps21
  go_wp2_with fail
  refine (rdepth_all 100000 (Nat.le_refl _) t rb n x w HN.out hn HL.out).mono ?_
  rintro e w1 ⟨rfl, hE1⟩
  rw [← HDQ.out]
  have HE1 := Lib.hid hE1
  clear hE1
  by_cases hd : 40 < dq
  · have hdi : (40 : Int) < (dq : Int) := by omega
    have hc := Lib.hid (show chk t = 15 by rw [HC.out, show deepB t 40 = false from (HDD.out.trans (decide_eq_false (by omega)))]; rfl)
    go_wp2
    refine bodyPost_ret (results_tmp rfl _ _ _) rfl ?_
    exact ⟨by rw [hc.out]; rfl, HE1.out⟩
  · have hdi : ¬ (40 : Int) < (dq : Int) := by omega
    have hdt := Lib.hid (show deepB t 40 = true from (HDD.out.trans (decide_eq_true (by omega))))
    go_wp2_with fail
    refine (rsize_all 100000 (Nat.le_refl _) t rb n x w1 HN.out hn (lst_ext HL.out HE1.out)).mono ?_
    rintro e w2 ⟨rfl, hE2⟩
    rw [← HSZ.out]
    have HE2 := Lib.hid (ext_trans HE1.out hE2)
    clear hE2
    by_cases hs : 200 < sz
    · have hsi : (200 : Int) < (sz : Int) := by omega
      have hc := Lib.hid (show chk t = 13 by rw [HC.out, hdt.out, if_pos rfl, if_pos hs])
      go_wp2
      refine bodyPost_ret (results_tmp rfl _ _ _) rfl ?_
      exact ⟨by rw [hc.out]; rfl, HE2.out⟩
    · have hsi : ¬ (200 : Int) < (sz : Int) := by omega
      have hc0 := Lib.hid (show chk t = if formB t then 0 else 1 by rw [HC.out, hdt.out, if_pos rfl, if_neg hs])
      go_wp2_with fail
      refine (rform_all 100000 (Nat.le_refl _) t rb n x w2 HN.out hn (lst_ext HL.out HE2.out)).mono ?_
      rintro e w3 ⟨rfl, hE3⟩
      have HE3 := Lib.hid (ext_trans HE2.out hE3)
      clear hE3
      cases hf : formB t with
      | true =>
        have hc := Lib.hid (show chk t = 0 by rw [hc0.out, hf]; rfl)
        clear hf
        go_wp2
        refine bodyPost_ret (results_tmp rfl _ _ _) rfl ?_
        exact ⟨by rw [hc.out]; rfl, HE3.out⟩
      | false =>
        have hc := Lib.hid (show chk t = 1 by rw [hc0.out, hf]; rfl)
        clear hf
        go_wp2
        refine bodyPost_ret (results_tmp rfl _ _ _) rfl ?_
        exact ⟨by rw [hc.out]; rfl, HE3.out⟩
end Go.Proofs.Ytiabmdboacpmcaa
