/- The walk of arith.Crt. -/
import Derived.Test.YtdjfndfkjbjcpaaGreatDoorAriE
import Derived.Test.YtdjfndfkjbjcpaaGreatDoorNumA
namespace Go.Proofs.YtdjfndfkjbjcpaaGreatDoor
open Go.RowKit HP

theorem quiet_left {P : Program} {f : FuncId} {args : Array Value} {w : World} {n : Nat} {v : Value}
    (h : Calls P f args (w.drewN n) fun e w' => e = .returned v ∧ w.drewN n = w') : Calls P f args (w.drewN n) fun e w'' => e = .returned v ∧ ∃ m, w'' = w.drewN m :=
  h.mono fun _ _ ⟨he, hm⟩ => ⟨he, n, hm.symm⟩
theorem quiet_add_left {P : Program} {f : FuncId} {args : Array Value} {w : World} {a n : Nat} {v : Value}
    (h : Calls P f args (w.drewN (a + n)) fun e w' => e = .returned v ∧ w.drewN (a + n) = w') :
    Calls P f args (w.drewN (a + n)) fun e w'' => e = .returned v ∧ ∃ m, w'' = w.drewN (a + m) :=
  h.mono fun _ _ ⟨he, hm⟩ => ⟨he, n, hm.symm⟩

theorem xgcd_pos (M m : Int) (w : World) (h1 : 1 ≤ M) (h2 : M ≤ 2147483647) (h3 : 1 ≤ m) (h4 : m ≤ 2147483647) :
    Calls Tryz.prog 90 #[.int .i64 M, .int .i64 m] w fun x w' => ∃ (v : Int) (n : Nat), x = .returned (.tuple #[.int .i64 (Int.gcd M m), .int .i64 (invM (M / (Int.gcd M m : Int)) (m / (Int.gcd M m : Int))), .int .i64 v, .int .i64 0]) ∧ w' = w.drewN n :=
  (xgcd_any M m w (by omega) h2 (by omega) h4 (by omega)).mono fun x w' ⟨u, hu, hx, n, hn⟩ => by
    have e := xu_inv (by omega) hu
    rw [← e]
    exact ⟨_, n, hx, hn⟩

def CgrAt (w : World) (b off : Nat) (l : List (Int × Int)) : Prop :=
  ∀ i r m, l[i]? = some (r, m) → w.cell? ⟨b, off + i * 2, none⟩ = some (.int .i64 r) ∧ w.cell? ⟨b, off + i * 2 + 1, none⟩ = some (.int .i64 m)

def crtVal (r : Except Int (Int × Int)) : Value := .tuple #[.agg #[.int .i64 (crtOut r).1, .int .i64 (crtOut r).2.1], .int .i64 (crtOut r).2.2]

def CrtW (w wr : World) (R M : Int) : Prop :=
  wr.cell? ⟨w.heap.size, 0, none⟩ = some (.int .i64 0) ∧ wr.cell? ⟨w.heap.size, 1, none⟩ = some (.int .i64 0) ∧ wr.frozen? ⟨w.heap.size, 0, none⟩ = false ∧ wr.frozen? ⟨w.heap.size, 1, none⟩ = false ∧
  wr.cell? ⟨w.heap.size + 1, 0, none⟩ = some (.int .i64 R) ∧ wr.cell? ⟨w.heap.size + 1, 1, none⟩ = some (.int .i64 M) ∧ wr.frozen? ⟨w.heap.size + 1, 0, none⟩ = false ∧ wr.frozen? ⟨w.heap.size + 1, 1, none⟩ = false ∧
  Below w.heap.size w wr ∧ w.heap.size + 2 ≤ wr.heap.size
theorem crtW_start (w : World) (t : TypeId) : CrtW w ((w.alloc (.cells #[.int .i64 0, .int .i64 0] t)).alloc (.cells #[.int .i64 0, .int .i64 1] t)) 0 1 := by
  refine ⟨?_, ?_, ?_, ?_, ?_, ?_, ?_, ?_, ((Below.refl _ _).alloc (Nat.le_refl _) _).alloc (by simp) _, by simp⟩
  · rw [World.cell?_alloc_past _ _ _ (by simp), World.cell?_alloc_at _ _ _ _ rfl]; rfl
  · rw [World.cell?_alloc_past _ _ _ (by simp), World.cell?_alloc_at _ _ _ _ rfl]; rfl
  · rw [World.frozen?_alloc_past _ _ _ (by simp)]; exact World.frozen?_alloc_at _ _ _ _ rfl
  · rw [World.frozen?_alloc_past _ _ _ (by simp)]; exact World.frozen?_alloc_at _ _ _ _ rfl
  · rw [World.cell?_alloc_at _ _ _ _ (by simp)]; rfl
  · rw [World.cell?_alloc_at _ _ _ _ (by simp)]; rfl
  · exact World.frozen?_alloc_at _ _ _ _ (by simp)
  · exact World.frozen?_alloc_at _ _ _ _ (by simp)
theorem crtW_alloc {w wr : World} {R M : Int} (h : CrtW w wr R M) (o : Obj) : CrtW w (wr.alloc o) R M := by
  obtain ⟨c1, c2, f1, f2, c3, c4, f3, f4, hb, hs⟩ := h
  have h0 : w.heap.size < wr.heap.size := by omega
  have h1 : w.heap.size + 1 < wr.heap.size := by omega
  refine ⟨?_, ?_, ?_, ?_, ?_, ?_, ?_, ?_, hb.alloc (by omega) _, by simp; omega⟩
  · rw [World.cell?_alloc_past _ _ _ h0]; exact c1
  · rw [World.cell?_alloc_past _ _ _ h0]; exact c2
  · rw [World.frozen?_alloc_past _ _ _ h0]; exact f1
  · rw [World.frozen?_alloc_past _ _ _ h0]; exact f2
  · rw [World.cell?_alloc_past _ _ _ h1]; exact c3
  · rw [World.cell?_alloc_past _ _ _ h1]; exact c4
  · rw [World.frozen?_alloc_past _ _ _ h1]; exact f3
  · rw [World.frozen?_alloc_past _ _ _ h1]; exact f4
theorem crtW_drewN {w wr : World} {R M : Int} (h : CrtW w wr R M) (n : Nat) : CrtW w (wr.drewN n) R M := by
  obtain ⟨c1, c2, f1, f2, c3, c4, f3, f4, hb, hs⟩ := h
  exact ⟨c1, c2, f1, f2, c3, c4, f3, f4, below_drewN hb n, hs⟩
theorem crtW_store {w wr : World} {R M : Int} (h : CrtW w wr R M) (R' M' : Int) : CrtW w ((wr.setCell ⟨w.heap.size + 1, 0, none⟩ (.int .i64 R')).setCell ⟨w.heap.size + 1, 1, none⟩ (.int .i64 M')) R' M' := by
  obtain ⟨c1, c2, f1, f2, c3, c4, f3, f4, hb, hs⟩ := h
  refine ⟨?_, ?_, ?_, ?_, ?_, ?_, ?_, ?_, (hb.setCell (by simp) _).setCell (by simp) _, by simpa [World.setCell] using hs⟩
  · rw [World.cell?_setCell_other _ _ _ _ (by simp), World.cell?_setCell_other _ _ _ _ (by simp)]; exact c1
  · rw [World.cell?_setCell_other _ _ _ _ (by simp), World.cell?_setCell_other _ _ _ _ (by simp)]; exact c2
  · rw [World.frozen?_setCell, World.frozen?_setCell]; exact f1
  · rw [World.frozen?_setCell, World.frozen?_setCell]; exact f2
  · rw [World.cell?_setCell_other _ _ _ _ (by simp)]; exact World.cell?_setCell_same _ _ _ c3
  · exact World.cell?_setCell_same _ _ _ ((World.cell?_setCell_other _ _ _ _ (by simp)).trans c4)
  · rw [World.frozen?_setCell, World.frozen?_setCell]; exact f3
  · rw [World.frozen?_setCell, World.frozen?_setCell]; exact f4

set_option maxHeartbeats 1000000 in
theorem crt_any (b off len cap : Nat) (l : List (Int × Int)) (hl : l.length = len) (w : World) (hb : b < w.heap.size) (hc : CgrAt w b off l) (hlen : len ≤ 9223372036854775807) :
    Calls Tryz.prog 45 #[.slice (some ⟨b, off, none⟩) len cap] w fun x w' =>
      x = .returned (crtVal (crt (0, 1) l)) ∧ Below w.heap.size w w' := by
  go_enter Tryz.func45, Tryz.ntmps45
  go_wp2
  go_loopw [17] (fun i wr => ∃ (k : Nat) (R M : Int), i = .int .i64 k ∧ k ≤ len ∧ CrtOk (R, M) ∧ Hid (crt (0, 1) l = crt (R, M) (l.drop k)) ∧
      CrtW w wr R M) (fun i _ => len - (intOf i).toNat)
  case atStart =>
    exact ⟨0, 0, 1, rfl, Nat.zero_le _, ⟨by decide, by decide, by decide⟩, rfl, crtW_start w _⟩
  case round =>
    obtain ⟨k, R, M, rfl, hk, hok, HCR, hW⟩ := hrel
    have HW := Lib.hid hW
    obtain ⟨c1, c2, f1, f2, c3, c4, f3, f4, hbel, hsz⟩ := hW
    by_cases hlt : k < len
    · obtain ⟨r, m, hrm⟩ : ∃ r m, l[k]? = some (r, m) := ⟨(l[k]'(by omega)).1, (l[k]'(by omega)).2, by rw [List.getElem?_eq_getElem (by omega)]⟩
      obtain ⟨g1, g2⟩ := hc k r m hrm
      have g1' := (hbel.cell (p := ⟨b, off + k * 2, none⟩) hb).trans g1
      have g2' := (hbel.cell (p := ⟨b, off + k * 2 + 1, none⟩) hb).trans g2
      have HBEL := Lib.hid hbel
      have HRM := Lib.hid hrm
      have hs0 : w.heap.size < wr.heap.size := by omega
      have hs1 : w.heap.size + 1 < wr.heap.size := by omega
      have HC := Lib.hid hc
      clear hbel hrm g1 g2 hc
      by_cases hm : 1 ≤ m ∧ m ≤ 2147483647
      · obtain ⟨hm1, hm2⟩ := hm
        have cx := fun w => xgcd_pos M m w (by have := hok.1; have := hok.2.1; simp only at *; omega) hok.2.2 hm1 hm2
        have hG : 0 < Int.gcd M m := Int.gcd_pos_of_ne_zero_right M (by omega)
        have hGm : Int.gcd M m ≤ m.natAbs := Nat.le_of_dvd (by omega) (Nat.gcd_dvd_right M.natAbs m.natAbs)
        have hGd : ((Int.gcd M m : Nat) : Int) ∣ m := Int.gcd_dvd_right ..
        have hs24 := fun h => crtStep_24 (c := (R, M)) (r := r) (m := m) ⟨hm1, hm2⟩ h
        have hs7 := fun h h' => crtStep_7 (c := (R, M)) (r := r) (m := m) ⟨hm1, hm2⟩ h h'
        have hsk := fun h h' => crtStep_ok (c := (R, M)) (r := r) (m := m) ⟨hm1, hm2⟩ h h'
        simp only at hs24 hs7 hsk
        obtain ⟨hR0, hRM, hMM⟩ := hok
        simp only at hR0 hRM hMM
        have hdr1 := Int.emod_nonneg r (show m ≠ 0 by omega)
        have hdr2 := Int.emod_lt_of_pos r (show 0 < m by omega)
        obtain ⟨hsp, hsm⟩ := div_pos_le (show (0 : Int) < (Int.gcd M m : Nat) by omega) (show 0 < m by omega) hGd
        obtain ⟨hu0, hu1⟩ := invM_range (M / (Int.gcd M m : Int)) hsp
        generalize Int.gcd M m = G at *
        generalize invM (M / (G : Int)) (m / (G : Int)) = U at *
        generalize hsg : m / (G : Int) = s at *
        generalize hdd : r % m - R = d at *
        have hd1 : -2147483647 ≤ d := by omega
        have hd2 : d ≤ 2147483647 := by omega
        have HD := Lib.hid hdd
        have HS := Lib.hid hsg
        have CX := Lib.hid cx
        clear hdd hsg cx hGd
        by_cases hdz : d % (G : Int) = 0
        · have hdt : (d.tmod (G : Int) != 0) = false := by simpa using tmod_zero_iff.2 hdz
          have hq : d.tdiv (G : Int) = d / (G : Int) := Int.tdiv_eq_ediv_of_dvd (Int.dvd_of_emod_eq_zero hdz)
          have hqb : (d.tdiv (G : Int)).natAbs ≤ d.natAbs := by rw [Int.natAbs_tdiv]; exact Nat.div_le_self _ _
          have hqb1 : -2147483647 ≤ d.tdiv (G : Int) := by omega
          have hqb2 : d.tdiv (G : Int) ≤ 2147483647 := by omega
          rw [← hq] at hsk
          clear hq hqb
          have hk0 := Int.emod_nonneg (d.tdiv (G : Int)) (show s ≠ 0 by omega)
          have hk1 := Int.emod_lt_of_pos (d.tdiv (G : Int)) hsp
          obtain ⟨hkb1, hkb2⟩ := mul_bd hk0 (by omega) hu0 (by omega)
          by_cases hlg : 2147483647 / s < M
          · have hst := HCR.out.trans (crt_err HRM.out (hs7 hdz hlg))
            have HST := Lib.hid hst
            clear hst hs24 hs7 hsk hdz
            go_wp2_with (first
              | (go_at_call 47; refine (inRange_yes m _ hm1 hm2).mono ?_; rintro x w' ⟨rfl, rfl⟩)
              | (go_at_call 90; refine (CX.out _).mono ?_; rintro x w' ⟨v, n, rfl, rfl⟩))
            go_quiet ((go_at_call 75; first | exact quiet_add_left (residue_any r m _ (by omega) (by omega)) | exact quiet_left (residue_any r m _ (by omega) (by omega))))
            rw [HD.out]
            go_wp2
            rw [HS.out]
            go_quiet (fail)
            go_wp2
            refine bodyPost_ret (v := .tuple #[.agg #[.int .i64 0, .int .i64 0], .int .i64 7]) (by simp [results, Tryz.results45, go_sem, hs0, c1, c2]) rfl ⟨?_, ?_⟩
            · rw [HST.out]; rfl
            · have := HBEL.out
              go_grown
              all_goals (refine below_drewN ?_ _; go_grown)
          · have hMle : (R, M).2 ≤ 2147483647 / s := by simp only; omega
            obtain ⟨o1, o2, o3, o4, o5⟩ := crt_range (c := (R, M)) ⟨hR0, hRM, hMM⟩ (show 1 ≤ s by omega) (Int.emod_nonneg (d.tdiv (G : Int) % s * U) (show s ≠ 0 by omega)) (Int.emod_lt_of_pos _ hsp) hMle
            simp only at o1 o2 o3 o4 o5
            have hst := HCR.out.trans (crt_ok HRM.out (hsk hdz hlg))
            have HST := Lib.hid hst
            have O1 := Lib.hid o1
            clear hst hs24 hs7 hsk hdz hMle o1 HCR
            go_wp2_with (first
              | (go_at_call 47; refine (inRange_yes m _ hm1 hm2).mono ?_; rintro x w' ⟨rfl, rfl⟩)
              | (go_at_call 90; refine (CX.out _).mono ?_; rintro x w' ⟨v, n, rfl, rfl⟩))
            go_quiet ((go_at_call 75; first | exact quiet_add_left (residue_any r m _ (by omega) (by omega)) | exact quiet_left (residue_any r m _ (by omega) (by omega))))
            rw [HD.out]
            go_wp2
            rw [HS.out]
            go_quiet (fail)
            go_wp2_with (go_at_call 75; refine (residue_any (d.tdiv (G : Int)) s _ (by omega) (by omega)).mono ?_; rintro x w' ⟨rfl, rfl⟩)
            go_roundw
            case rel => exact ⟨k + 1, _, _, by go_num, by omega, O1.out, HST.out, crtW_store (crtW_drewN (crtW_alloc HW.out _) _) _ _⟩
            case measure => simp [intOf]; omega
        · have hdt : (d.tmod (G : Int) != 0) = true := by simpa using fun h => hdz (tmod_zero_iff.1 h)
          have hst := HCR.out.trans (crt_err HRM.out (hs24 hdz))
          have HST := Lib.hid hst
          clear hst hs24 hs7 hsk hdz
          go_wp2_with (first
            | (go_at_call 47; refine (inRange_yes m _ hm1 hm2).mono ?_; rintro x w' ⟨rfl, rfl⟩)
            | (go_at_call 90; refine (CX.out _).mono ?_; rintro x w' ⟨v, n, rfl, rfl⟩))
          go_quiet ((go_at_call 75; first | exact quiet_add_left (residue_any r m _ (by omega) (by omega)) | exact quiet_left (residue_any r m _ (by omega) (by omega))))
          rw [HD.out]
          go_wp2
          refine bodyPost_ret (v := .tuple #[.agg #[.int .i64 0, .int .i64 0], .int .i64 24]) (by simp [results, Tryz.results45, go_sem, hs0, c1, c2]) rfl ⟨?_, ?_⟩
          · rw [HST.out]; rfl
          · have := HBEL.out
            go_grown
            all_goals (refine below_drewN ?_ _; go_grown)
      · have hst := HCR.out.trans (crt_err HRM.out (crtStep_2 (c := (R, M)) (r := r) (m := m) (by omega)))
        have HST := Lib.hid hst
        clear hst
        go_wp2_with (go_at_call 47; refine (inRange_no m _ (by omega)).mono ?_; rintro x w' ⟨rfl, rfl⟩)
        refine bodyPost_ret (v := .tuple #[.agg #[.int .i64 0, .int .i64 0], .int .i64 2]) (by simp [results, Tryz.results45, go_sem, hs0, c1, c2]) rfl ⟨?_, ?_⟩
        · rw [HST.out]; rfl
        · have := HBEL.out
          go_grown
    · obtain rfl : k = len := by omega
      have hst := HCR.out
      rw [List.drop_of_length_le (by omega)] at hst
      have HST := Lib.hid hst
      clear hst HCR
      have HB := Lib.hid hbel
      clear hbel
      go_wp2
      refine bodyPost_ret (v := .tuple #[.agg #[.int .i64 R, .int .i64 M], .int .i64 0]) (by simp [results, Tryz.results45, go_sem, c1, c2]) rfl ⟨?_, ?_⟩
      · rw [HST.out]; rfl
      · have := HB.out
        go_grown
end Go.Proofs.YtdjfndfkjbjcpaaGreatDoor
