/- The walk of the reference's Crt. -/
import Derived.Test.YtjmldlbiihaefaaDoorRefF
namespace Go.Proofs.YtjmldlbiihaefaaDoor
open Go.RowKit HP

theorem gcdW_small {M m : Int} (h1 : 1 ≤ M) (h2 : M ≤ 2147483647) : gcdW M m = (Int.gcd M m : Int) := by
  have h3 : Int.gcd M m ≤ M.natAbs := Nat.le_of_dvd (by omega) (Nat.gcd_dvd_left M.natAbs m.natAbs)
  unfold gcdW
  rw [if_neg (by omega)]
theorem gcd_div_one {M m : Int} (h1 : 1 ≤ M) : Int.gcd (M / (Int.gcd M m : Int)) (m / (Int.gcd M m : Int)) = 1 :=
  Int.gcd_ediv_gcd_ediv_gcd (Int.gcd_pos_of_ne_zero_left m (by omega))
theorem inv_part {M m : Int} (h1 : 1 ≤ M) (h3 : 1 ≤ m / (Int.gcd M m : Int)) (h4 : m / (Int.gcd M m : Int) ≤ 2147483647) :
    invOut (M / (Int.gcd M m : Int)) (m / (Int.gcd M m : Int)) = (invM (M / (Int.gcd M m : Int)) (m / (Int.gcd M m : Int)), 0) := by
  unfold invOut
  rw [if_neg (by omega), if_neg (fun x => x (gcd_div_one h1))]

set_option maxHeartbeats 1000000 in
set_option maxRecDepth 100000 in
theorem rcrt_any (b off len cap : Nat) (l : List (Int × Int)) (hl : l.length = len) (w : World) (hb : b < w.heap.size) (hc : CgrAt w b off l) (hlen : len ≤ 9223372036854775807) :
    Calls Tryd.prog 21 #[.slice (some ⟨b, off, none⟩) len cap] w fun x w' =>
      x = .returned (crtVal (crt (0, 1) l)) ∧ Below w.heap.size w w' := by
  go_enter Tryd.func21, Tryd.ntmps21
  go_wp2
  go_loopw [5] (fun i wr => ∃ (k : Nat) (R M : Int), i = .int .i64 k ∧ k ≤ len ∧ CrtOk (R, M) ∧ Hid (crt (0, 1) l = crt (R, M) (l.drop k)) ∧
      CrtW w wr R M) (fun i _ => len - (intOf i).toNat)
  case atStart =>
    exact ⟨0, 0, 1, rfl, Nat.zero_le _, ⟨by decide, by decide, by decide⟩, rfl, crtW_start w _⟩
  case round =>
    obtain ⟨k, R, M, rfl, hk, hok, HCR, hW⟩ := hrel
    have HW := Lib.hid hW
    obtain ⟨c1, c2, f1, f2, c3, c4, f3, f4, hbel, hsz⟩ := hW
    by_cases hlt : k < len
    · obtain ⟨r, m, hrm⟩ : ∃ r m, l[k]? = some (r, m) := ⟨(l[k]'(by omega)).1, (l[k]'(by omega)).2, by rw [List.getElem?_eq_getElem (by omega)]⟩
      obtain ⟨g1, g2⟩ := hc k r m hrm
      have g1' := (hbel.cell (p := ⟨b, off + k * 2, none⟩) hb).trans g1
      have g2' := (hbel.cell (p := ⟨b, off + k * 2 + 1, none⟩) hb).trans g2
      have HBEL := Lib.hid hbel
      have HRM := Lib.hid hrm
      have HC := Lib.hid hc
      clear hbel hrm g1 g2 hc
      by_cases hm : 1 ≤ m ∧ m ≤ 2147483647
      · obtain ⟨hm1, hm2⟩ := hm
        have hM1 : 1 ≤ M := by have := hok.1; have := hok.2.1; simp only at *; omega
        have cx : ∀ w, Calls Tryd.prog 18 #[.int .i64 M, .int .i64 m] w fun e w' => e = .returned (.int .i64 (Int.gcd M m : Int)) ∧ w = w' := fun w => by
          rw [← gcdW_small hM1 hok.2.2]
          exact rgcd_any M m w (by omega) (by have := hok.2.2; simp only at this; omega) (by omega) (by omega)
        have hip := fun h3 h4 => inv_part (M := M) (m := m) hM1 h3 h4
        have hG : 0 < Int.gcd M m := Int.gcd_pos_of_ne_zero_right M (by omega)
        have hGm : Int.gcd M m ≤ m.natAbs := Nat.le_of_dvd (by omega) (Nat.gcd_dvd_right M.natAbs m.natAbs)
        have hGd : ((Int.gcd M m : Nat) : Int) ∣ m := Int.gcd_dvd_right ..
        have hs24 := fun h => crtStep_24 (c := (R, M)) (r := r) (m := m) ⟨hm1, hm2⟩ h
        have hs7 := fun h h' => crtStep_7 (c := (R, M)) (r := r) (m := m) ⟨hm1, hm2⟩ h h'
        have hsk := fun h h' => crtStep_ok (c := (R, M)) (r := r) (m := m) ⟨hm1, hm2⟩ h h'
        simp only at hs24 hs7 hsk
        obtain ⟨hR0, hRM, hMM⟩ := hok
        simp only at hR0 hRM hMM
        have hdr1 := Int.emod_nonneg r (show m ≠ 0 by omega)
        have hdr2 := Int.emod_lt_of_pos r (show 0 < m by omega)
        obtain ⟨hsp, hsm⟩ := div_pos_le (show (0 : Int) < (Int.gcd M m : Nat) by omega) (show 0 < m by omega) hGd
        obtain ⟨hu0, hu1⟩ := invM_range (M / (Int.gcd M m : Int)) hsp
        have hip' := hip (by omega) (by omega)
        clear hip
        generalize Int.gcd M m = G at *
        generalize invM (M / (G : Int)) (m / (G : Int)) = U at *
        generalize hMG : M / (G : Int) = MG at *
        generalize hsg : m / (G : Int) = s at *
        have hMG1 : -9223372036854775808 ≤ MG := by rw [← hMG]; have := Int.ediv_nonneg (show 0 ≤ M by omega) (show (0 : Int) ≤ G by omega); omega
        have hMG2 : MG ≤ 9223372036854775807 := by rw [← hMG]; have := Int.ediv_le_self (G : Int) (show 0 ≤ M by omega); omega
        have HMG := Lib.hid hMG
        have CI := Lib.hid (fun w => rinverse_any MG s w)
        rw [hip'] at CI
        generalize hdd : r % m - R = d at *
        have hd1 : -2147483647 ≤ d := by omega
        have hd2 : d ≤ 2147483647 := by omega
        have HD := Lib.hid hdd
        have HS := Lib.hid hsg
        have CX := Lib.hid cx
        clear hdd hsg cx hGd hip' hMG
        by_cases hdz : d % (G : Int) = 0
        · have hdt : (d.tmod (G : Int) != 0) = false := by simpa using tmod_zero_iff.2 hdz
          have hq : d.tdiv (G : Int) = d / (G : Int) := Int.tdiv_eq_ediv_of_dvd (Int.dvd_of_emod_eq_zero hdz)
          have hqb : (d.tdiv (G : Int)).natAbs ≤ d.natAbs := by rw [Int.natAbs_tdiv]; exact Nat.div_le_self _ _
          have hqb1 : -2147483647 ≤ d.tdiv (G : Int) := by omega
          have hqb2 : d.tdiv (G : Int) ≤ 2147483647 := by omega
          rw [← hq] at hsk
          clear hq hqb
          have hk0 := Int.emod_nonneg (d.tdiv (G : Int)) (show s ≠ 0 by omega)
          have hk1 := Int.emod_lt_of_pos (d.tdiv (G : Int)) hsp
          obtain ⟨hkb1, hkb2⟩ := mul_bd hk0 (by omega) hu0 (by omega)
          by_cases hlg : 2147483647 / s < M
          · have hst := HCR.out.trans (crt_err HRM.out (hs7 hdz hlg))
            have HST := Lib.hid hst
            clear hst hs24 hs7 hsk hdz
            go_wp2_with (go_at_call 37; refine (rinRange_yes m _ hm1 hm2).mono ?_; rintro x w' ⟨rfl, rfl⟩)
            go_quiet ((go_at_call 18; first | exact quiet_add_left (CX.out _) | exact quiet_left (CX.out _)))
            go_wp2
            go_quiet ((go_at_call 22; first | exact quiet_add_left (rmod_any r m _ (by omega) (by omega)) | exact quiet_left (rmod_any r m _ (by omega) (by omega))))
            rw [HD.out]
            go_wp2
            rw [HS.out]
            go_quiet (fail)
            go_wp2
            refine bodyPost_ret (v := .tuple #[.agg #[.int .i64 0, .int .i64 0], .int .i64 7]) (by simp [results, Tryd.results21, go_sem, c1, c2]) rfl ⟨?_, ?_⟩
            · rw [HST.out]; rfl
            · have := HBEL.out
              go_grown
              all_goals (refine below_drewN ?_ _; go_grown)
          · have hMle : (R, M).2 ≤ 2147483647 / s := by simp only; omega
            obtain ⟨o1, o2, o3, o4, o5⟩ := crt_range (c := (R, M)) ⟨hR0, hRM, hMM⟩ (show 1 ≤ s by omega) (Int.emod_nonneg (d.tdiv (G : Int) % s * U) (show s ≠ 0 by omega)) (Int.emod_lt_of_pos _ hsp) hMle
            simp only at o1 o2 o3 o4 o5
            have hst := HCR.out.trans (crt_ok HRM.out (hsk hdz hlg))
            have HST := Lib.hid hst
            have O1 := Lib.hid o1
            clear hst hs24 hs7 hsk hdz hMle o1 HCR
            by_cases hs1 : 1 < s
            · skip
              go_wp2_with (go_at_call 37; refine (rinRange_yes m _ hm1 hm2).mono ?_; rintro x w' ⟨rfl, rfl⟩)
              go_quiet ((go_at_call 18; first | exact quiet_add_left (CX.out _) | exact quiet_left (CX.out _)))
              go_wp2
              go_quiet ((go_at_call 22; first | exact quiet_add_left (rmod_any r m _ (by omega) (by omega)) | exact quiet_left (rmod_any r m _ (by omega) (by omega))))
              rw [HD.out]
              go_wp2
              rw [HS.out]
              go_quiet (fail)
              go_wp2_with fail
              rw [HMG.out]
              refine (CI.out _).mono ?_
              rintro x w' ⟨rfl, rfl⟩
              go_wp2_with (go_at_call 22; refine (rmod_any (d.tdiv (G : Int)) s _ (by omega) (by omega)).mono ?_; rintro x w' ⟨rfl, rfl⟩)
              go_roundw
              case rel => exact ⟨k + 1, _, _, by go_num, by omega, O1.out, HST.out, crtW_store (crtW_drewN HW.out _) _ _⟩
              case measure => simp [intOf]; omega
            · have hs0 : s = 1 := by omega
              have hz : d.tdiv (G : Int) % s * U % s = 0 := by rw [hs0]; omega
              rw [hz] at HST O1 o2 o3
              have HZ := Lib.hid hz
              have hs1' : s ≤ 1 := by omega
              clear hz hs0
              go_wp2_with (go_at_call 37; refine (rinRange_yes m _ hm1 hm2).mono ?_; rintro x w' ⟨rfl, rfl⟩)
              go_quiet ((go_at_call 18; first | exact quiet_add_left (CX.out _) | exact quiet_left (CX.out _)))
              go_wp2
              go_quiet ((go_at_call 22; first | exact quiet_add_left (rmod_any r m _ (by omega) (by omega)) | exact quiet_left (rmod_any r m _ (by omega) (by omega))))
              rw [HD.out]
              go_wp2
              rw [HS.out]
              go_quiet (fail)
              go_wp2
              go_roundw
              case rel =>
                have h1 := O1.out
                have h2 := HST.out
                rw [Int.mul_zero, Int.add_zero] at h1 h2
                exact ⟨k + 1, _, _, by go_num, by omega, h1, h2, crtW_store (crtW_drewN HW.out _) _ _⟩
              case measure => simp [intOf]; omega
        · have hdt : (d.tmod (G : Int) != 0) = true := by simpa using fun h => hdz (tmod_zero_iff.1 h)
          have hst := HCR.out.trans (crt_err HRM.out (hs24 hdz))
          have HST := Lib.hid hst
          clear hst hs24 hs7 hsk hdz
          go_wp2_with (go_at_call 37; refine (rinRange_yes m _ hm1 hm2).mono ?_; rintro x w' ⟨rfl, rfl⟩)
          go_quiet ((go_at_call 18; first | exact quiet_add_left (CX.out _) | exact quiet_left (CX.out _)))
          go_wp2
          go_quiet ((go_at_call 22; first | exact quiet_add_left (rmod_any r m _ (by omega) (by omega)) | exact quiet_left (rmod_any r m _ (by omega) (by omega))))
          rw [HD.out]
          go_wp2
          refine bodyPost_ret (v := .tuple #[.agg #[.int .i64 0, .int .i64 0], .int .i64 24]) (by simp [results, Tryd.results21, go_sem, c1, c2]) rfl ⟨?_, ?_⟩
          · rw [HST.out]; rfl
          · have := HBEL.out
            go_grown
            all_goals (refine below_drewN ?_ _; go_grown)
      · have hst := HCR.out.trans (crt_err HRM.out (crtStep_2 (c := (R, M)) (r := r) (m := m) (by omega)))
        have HST := Lib.hid hst
        clear hst
        go_wp2_with (go_at_call 37; refine (rinRange_no m _ (by omega)).mono ?_; rintro x w' ⟨rfl, rfl⟩)
        refine bodyPost_ret (v := .tuple #[.agg #[.int .i64 0, .int .i64 0], .int .i64 2]) (by simp [results, Tryd.results21, go_sem, c1, c2]) rfl ⟨?_, ?_⟩
        · rw [HST.out]; rfl
        · have := HBEL.out
          go_grown
          all_goals (refine below_drewN ?_ _; go_grown)
    · obtain rfl : k = len := by omega
      have hst := HCR.out
      rw [List.drop_of_length_le (by omega)] at hst
      have HST := Lib.hid hst
      clear hst HCR
      have HB := Lib.hid hbel
      clear hbel
      go_wp2
      refine bodyPost_ret (v := .tuple #[.agg #[.int .i64 R, .int .i64 M], .int .i64 0]) (by simp [results, Tryd.results21, go_sem, c1, c2]) rfl ⟨?_, ?_⟩
      · rw [HST.out]; rfl
      · have := HB.out
        go_grown
end Go.Proofs.YtjmldlbiihaefaaDoor
