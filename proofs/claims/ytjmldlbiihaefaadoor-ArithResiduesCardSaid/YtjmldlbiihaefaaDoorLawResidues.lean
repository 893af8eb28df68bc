/- The law ArithResidues: its walk. -/
import Derived.Test.YtjmldlbiihaefaaDoorRefJ
import Derived.Test.YtjmldlbiihaefaaDoorRefA
namespace Go.Proofs.YtjmldlbiihaefaaDoor
open Go.RowKit HP

theorem inv_ok {a m : Int} (h : (invOut a m).2 = 0) : (1 ≤ m ∧ m ≤ 2147483647) ∧ Int.gcd a m = 1 ∧ (invOut a m).1 = invM a m := by
  rcases inv_cases a m with ⟨_, e⟩ | ⟨h1, ⟨_, e⟩ | ⟨h2, e⟩⟩
  · rw [e] at h; exact absurd h (by decide)
  · rw [e] at h; exact absurd h (by decide)
  · exact ⟨h1, h2, by rw [e]⟩
theorem inv_prod {a m : Int} (h : (invOut a m).2 = 0) : a % m * (invOut a m).1 % m = 1 % m := by
  obtain ⟨⟨h1, _⟩, h2, h3⟩ := inv_ok h
  rw [h3]
  have h4 := invM_mod (a := a) (m := m) (by omega) h2
  have h5 : Cong m (a * invM a m) 1 := h4
  exact (((Cong.emod m a).mul (Cong.refl m _)).trans h5).emod_eq

set_option maxHeartbeats 2000000 in
set_option maxRecDepth 100000 in
theorem residues_bad (a n m : Int) (w : World) (hT : TabW w) (hB : 0 < w.heap.size) (hE : (invOut a m).2 ≠ 0) (_ : n ≤ 9223372036854775807) :
    Calls Tryd.prog 10 #[.int .i64 a, .int .i64 n, .int .i64 m] w fun x w' => x = .returned (.bool true) ∧ Below w.heap.size w w' := by
  have caw := awake_any w hT hB
  have ci := fun w => inverse_any a m w
  have cj := fun w => rinverse_any a m w
  have co := fun w => order_err a m w hE
  have cr := fun w => rorder_err a m w hE
  have hEb : ((invOut a m).2 != 0) = true := by rw [bne_iff_ne]; exact hE
  generalize (invOut a m).1 = x at *
  generalize (invOut a m).2 = e at *
  have CAW := Lib.hid caw
  have CI := Lib.hid ci
  have CJ := Lib.hid cj
  have CO := Lib.hid co
  have CR := Lib.hid cr
  clear hT hB caw ci cj co cr hE
  by_cases hbad : (m < 1 ∨ 2147483647 < m) ∨ n < 0
  · have CP := Lib.hid fun w => powmod_no a n m w hbad
    by_cases hm : m < 1 ∨ 2147483647 < m
    · have CRN := Lib.hid fun w => rinRange_no m w hm
      clear hbad hm
      go_enter Tryd.func10, Tryd.ntmps10
      go_wp2_with fail
      refine CAW.out.mono ?_
      rintro x w1 ⟨rfl, hb1⟩
      have HB1 := Lib.hid hb1
      have hs1 := hb1.size
      clear hb1
      go_wp2_with (first
        | (go_at_call 32; refine (CI.out _).mono ?_; rintro x w' ⟨rfl, n2, rfl⟩)
        | (go_at_call 33; refine (CJ.out _).mono ?_; rintro x w' ⟨rfl, rfl⟩)
        | (go_at_call 34; refine (CP.out _).mono ?_; rintro x w' ⟨rfl, rfl⟩))
      refine (CO.out _).mono ?_
      rintro x w3 ⟨rfl, hb3⟩
      have hs3 := hb3.size
      rw [World.heap_drewN] at hs3
      have HB3 := Lib.hid ((below_drewN HB1.out n2).trans (hb3.mono (by rw [World.heap_drewN]; exact hs1)))
      clear hb3
      go_wp2_with fail
      refine (CR.out _).mono ?_
      rintro x w4 ⟨rfl, hb4⟩
      have HB4 := Lib.hid (HB3.out.trans (hb4.mono (Nat.le_trans hs1 hs3)))
      clear hb4
      go_wp2_with (go_at_call 37; refine (CRN.out _).mono ?_; rintro x w' ⟨rfl, rfl⟩)
      go_ret
      exact ⟨rfl, HB4.out⟩
    · have CRN := Lib.hid fun w => rinRange_yes m w (by omega) (by omega)
      have hn : decide (n < 0) = true := by rw [decide_eq_true_iff]; omega
      clear hbad hm
      go_enter Tryd.func10, Tryd.ntmps10
      go_wp2_with fail
      refine CAW.out.mono ?_
      rintro x w1 ⟨rfl, hb1⟩
      have HB1 := Lib.hid hb1
      have hs1 := hb1.size
      clear hb1
      go_wp2_with (first
        | (go_at_call 32; refine (CI.out _).mono ?_; rintro x w' ⟨rfl, n2, rfl⟩)
        | (go_at_call 33; refine (CJ.out _).mono ?_; rintro x w' ⟨rfl, rfl⟩)
        | (go_at_call 34; refine (CP.out _).mono ?_; rintro x w' ⟨rfl, rfl⟩))
      refine (CO.out _).mono ?_
      rintro x w3 ⟨rfl, hb3⟩
      have hs3 := hb3.size
      rw [World.heap_drewN] at hs3
      have HB3 := Lib.hid ((below_drewN HB1.out n2).trans (hb3.mono (by rw [World.heap_drewN]; exact hs1)))
      clear hb3
      go_wp2_with fail
      refine (CR.out _).mono ?_
      rintro x w4 ⟨rfl, hb4⟩
      have HB4 := Lib.hid (HB3.out.trans (hb4.mono (Nat.le_trans hs1 hs3)))
      clear hb4
      go_wp2_with (go_at_call 37; refine (CRN.out _).mono ?_; rintro x w' ⟨rfl, rfl⟩)
      go_ret
      exact ⟨rfl, HB4.out⟩
  · obtain ⟨N, rfl⟩ := Int.eq_ofNat_of_zero_le (show 0 ≤ n by omega)
    have hm1 : 1 ≤ m := by omega
    have hm2 : m ≤ 2147483647 := by omega
    have cp := fun w => powmod_any a N m w (by omega) (by omega) hm2
    have cq := fun w => rpower_any a N m w (by omega) (by omega) hm2
    have CRN := Lib.hid fun w => rinRange_yes m w hm1 hm2
    have hn : decide ((N : Int) < 0) = false := by simp
    generalize a ^ N % m = A at *
    have CP := Lib.hid cp
    have CQ := Lib.hid cq
    clear cp cq hbad
    go_enter Tryd.func10, Tryd.ntmps10
    go_wp2_with fail
    refine CAW.out.mono ?_
    rintro x w1 ⟨rfl, hb1⟩
    have HB1 := Lib.hid hb1
    have hs1 := hb1.size
    clear hb1
    go_wp2_with (first
      | (go_at_call 32; refine (CI.out _).mono ?_; rintro x w' ⟨rfl, n2, rfl⟩)
      | (go_at_call 33; refine (CJ.out _).mono ?_; rintro x w' ⟨rfl, rfl⟩)
      | (go_at_call 34; refine (CP.out _).mono ?_; rintro x w' ⟨rfl, rfl⟩))
    refine (CO.out _).mono ?_
    rintro x w3 ⟨rfl, hb3⟩
    have hs3 := hb3.size
    rw [World.heap_drewN] at hs3
    have HB3 := Lib.hid ((below_drewN HB1.out n2).trans (hb3.mono (by rw [World.heap_drewN]; exact hs1)))
    clear hb3
    go_wp2_with fail
    refine (CR.out _).mono ?_
    rintro x w4 ⟨rfl, hb4⟩
    have HB4 := Lib.hid (HB3.out.trans (hb4.mono (Nat.le_trans hs1 hs3)))
    clear hb4
    go_wp2_with (first
      | (go_at_call 37; refine (CRN.out _).mono ?_; rintro x w' ⟨rfl, rfl⟩)
      | (go_at_call 38; refine (CQ.out _).mono ?_; rintro x w' ⟨rfl, n5, rfl⟩))
    go_quiet (fail)
    go_wp2
    go_ret
    exact ⟨rfl, by first | exact below_drewN HB4.out _ | exact below_drewN (below_drewN HB4.out _) _⟩

set_option maxHeartbeats 2000000 in
set_option maxRecDepth 100000 in
theorem residues_ok (a n : Int) (M : Nat) (w : World) (hT : TabW w) (hB : 0 < w.heap.size) (hE : (invOut a M).2 = 0) (_ : n ≤ 9223372036854775807) :
    Calls Tryd.prog 10 #[.int .i64 a, .int .i64 n, .int .i64 M] w fun x w' => x = .returned (.bool true) ∧ Below w.heap.size w w' := by
  have caw := awake_any w hT hB
  have ci := fun w => inverse_any a M w
  have cj := fun w => rinverse_any a M w
  obtain ⟨⟨hm1, hm2⟩, hg, hx⟩ := inv_ok hE
  have hprod := inv_prod hE
  obtain ⟨d, hd, hdv⟩ := unit_ord (a := a) (m := M) (by omega) hg
  have co := fun w => order_ok a M d w (by omega) (by omega) hE hd hdv
  have cr := fun w => rorder_ok a M d w (by omega) (by omega) hE hd hdv
  rw [hE] at ci cj
  have hx1 := invM_range a (show (0 : Int) < M by omega)
  rw [← hx] at hx1
  clear hx hE hg hdv
  have cm := fun w => rmod_any a M w (by omega) (by omega)
  have r1 := Int.emod_nonneg a (show (M : Int) ≠ 0 by omega)
  have r2 := Int.emod_lt_of_pos a (show (0 : Int) < M by omega)
  generalize a % (M : Int) = r at *
  generalize (invOut a M).1 = x at *
  obtain ⟨x1, x2⟩ := hx1
  obtain ⟨o1, o2⟩ := mul_bd r1 (by omega) x1 (by omega)
  have hd0 : 0 < d := hd.1
  have hdt := hd.test
  have CAW := Lib.hid caw
  have CI := Lib.hid ci
  have CJ := Lib.hid cj
  have CO := Lib.hid co
  have CR := Lib.hid cr
  have CM := Lib.hid cm
  clear hT hB caw ci cj co cr hd cm
  have CRN := Lib.hid fun w => rinRange_yes (M : Int) w hm1 hm2
  by_cases hbad : n < 0
  · have CP := Lib.hid fun w => powmod_no a n M w (.inr hbad)
    have hn : decide (n < 0) = true := by rw [decide_eq_true_iff]; omega
    clear hbad hdt
    go_enter Tryd.func10, Tryd.ntmps10
    go_wp2_with fail
    refine CAW.out.mono ?_
    rintro x w1 ⟨rfl, hb1⟩
    have HB1 := Lib.hid hb1
    have hs1 := hb1.size
    clear hb1
    go_wp2_with (first
      | (go_at_call 32; refine (CI.out _).mono ?_; rintro x w' ⟨rfl, n2, rfl⟩)
      | (go_at_call 33; refine (CJ.out _).mono ?_; rintro x w' ⟨rfl, rfl⟩)
      | (go_at_call 34; refine (CP.out _).mono ?_; rintro x w' ⟨rfl, rfl⟩))
    refine (CO.out _).mono ?_
    rintro x w3 ⟨rfl, hb3⟩
    have hs3 := hb3.size
    rw [World.heap_drewN] at hs3
    have HB3 := Lib.hid ((below_drewN HB1.out n2).trans (hb3.mono (by rw [World.heap_drewN]; exact hs1)))
    clear hb3
    go_wp2_with fail
    refine (CR.out _).mono ?_
    rintro x w4 ⟨rfl, hb4⟩
    have HB4 := Lib.hid (HB3.out.trans (hb4.mono (Nat.le_trans hs1 hs3)))
    clear hb4
    go_wp2_with (go_at_call 37; refine (CRN.out _).mono ?_; rintro x w' ⟨rfl, rfl⟩)
    go_ret
    exact ⟨rfl, HB4.out⟩
  · obtain ⟨N, rfl⟩ := Int.eq_ofNat_of_zero_le (show 0 ≤ n by omega)
    have cp := fun w => powmod_any a N M w (by omega) (by omega) hm2
    have cq := fun w => rpower_any a N M w (by omega) (by omega) hm2
    have hn : decide ((N : Int) < 0) = false := by simp
    have ht1 := hdt N
    generalize a ^ N % (M : Int) = A at *
    have CP := Lib.hid cp
    have CQ := Lib.hid cq
    have hp : (r * x % (M : Int) == 1 % (M : Int)) = true := by rw [beq_iff_eq]; exact hprod
    clear cp cq hbad hdt hprod
    have ht2 : ∃ b : Bool, (A == 1 % (M : Int)) = b ∧ ((N : Int) % (d : Int) == 0) = b := by
      by_cases h : d ∣ N
      · refine ⟨true, by rw [beq_iff_eq]; exact ht1.2 h, ?_⟩
        rw [beq_iff_eq]
        have := Nat.mod_eq_zero_of_dvd h
        omega
      · refine ⟨false, by rw [beq_eq_false_iff_ne]; exact fun h2 => h (ht1.1 h2), ?_⟩
        rw [beq_eq_false_iff_ne]
        intro h2
        exact h (Nat.dvd_of_mod_eq_zero (by omega))
    obtain ⟨b, hb1, hb2⟩ := ht2
    clear ht1
    have hdz : ¬ d = 0 := by omega
    go_enter Tryd.func10, Tryd.ntmps10
    go_wp2_with fail
    refine CAW.out.mono ?_
    rintro x w1 ⟨rfl, hb1⟩
    have HB1 := Lib.hid hb1
    have hs1 := hb1.size
    clear hb1
    go_wp2_with (first
      | (go_at_call 32; refine (CI.out _).mono ?_; rintro x w' ⟨rfl, n2, rfl⟩)
      | (go_at_call 33; refine (CJ.out _).mono ?_; rintro x w' ⟨rfl, rfl⟩)
      | (go_at_call 34; refine (CP.out _).mono ?_; rintro x w' ⟨rfl, rfl⟩))
    refine (CO.out _).mono ?_
    rintro x w3 ⟨rfl, hb3⟩
    have hs3 := hb3.size
    rw [World.heap_drewN] at hs3
    have HB3 := Lib.hid ((below_drewN HB1.out n2).trans (hb3.mono (by rw [World.heap_drewN]; exact hs1)))
    clear hb3
    go_wp2_with fail
    refine (CR.out _).mono ?_
    rintro x w4 ⟨rfl, hb4⟩
    have HB4 := Lib.hid (HB3.out.trans (hb4.mono (Nat.le_trans hs1 hs3)))
    clear hb4
    go_wp2_with (first
      | (go_at_call 37; refine (CRN.out _).mono ?_; rintro x w' ⟨rfl, rfl⟩)
      | (go_at_call 38; refine (CQ.out _).mono ?_; rintro x w' ⟨rfl, n5, rfl⟩))
    by_cases hbig : 1000 < (N : Int)
    · have hbd : decide (1000 < (N : Int)) = true := by rw [decide_eq_true_iff]; exact hbig
      go_quiet ((go_at_call 22; first | exact quiet_add_left (CM.out _) | exact quiet_left (CM.out _)))
      go_wp2
      go_ret
      exact ⟨rfl, by first | exact below_drewN HB4.out _ | exact below_drewN (below_drewN HB4.out _) _⟩
    · have hbd : decide (1000 < (N : Int)) = false := by rw [decide_eq_false_iff_not]; exact hbig
      cases b with
      | true =>
        go_quiet ((go_at_call 22; first | exact quiet_add_left (CM.out _) | exact quiet_left (CM.out _)))
        go_wp2
        go_ret
        exact ⟨rfl, by first | exact below_drewN HB4.out _ | exact below_drewN (below_drewN HB4.out _) _⟩
      | false =>
        go_quiet ((go_at_call 22; first | exact quiet_add_left (CM.out _) | exact quiet_left (CM.out _)))
        go_wp2
        go_ret
        exact ⟨rfl, by first | exact below_drewN HB4.out _ | exact below_drewN (below_drewN HB4.out _) _⟩

theorem residues_law (a n m : Int) (w : World) (hT : TabW w) (hB : 0 < w.heap.size) (_ : -9223372036854775808 ≤ a) (_ : a ≤ 9223372036854775807) (_ : -9223372036854775808 ≤ n) (hn : n ≤ 9223372036854775807) (_ : -9223372036854775808 ≤ m) (_ : m ≤ 9223372036854775807) :
    Calls Tryd.prog 10 #[.int .i64 a, .int .i64 n, .int .i64 m] w fun x w' => x = .returned (.bool true) ∧ Below w.heap.size w w' := by
  by_cases hE : (invOut a m).2 = 0
  · obtain ⟨⟨hm1, hm2⟩, _⟩ := inv_ok hE
    obtain ⟨M, rfl⟩ := Int.eq_ofNat_of_zero_le (show 0 ≤ m by omega)
    exact residues_ok a n M w hT hB hE hn
  · exact residues_bad a n m w hT hB hE hn
end Go.Proofs.YtjmldlbiihaefaaDoor
