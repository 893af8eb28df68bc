/- The law ArithPeriod: its walk. -/
import Derived.Test.YtjmldlbiihaefaaDoorRefE
namespace Go.Proofs.YtjmldlbiihaefaaDoor
open Go.RowKit HP

theorem kro_period {D n k : Int} (h0 : D ≠ 0) (h4 : D % 4 = 0 ∨ D % 4 = 1) (hn : 1 ≤ n) (hk : 0 ≤ k) : kro D (n + k * (D.natAbs : Int)) = kro D n := by
  obtain ⟨x, rfl⟩ := Int.eq_ofNat_of_zero_le (show 0 ≤ n by omega)
  obtain ⟨y, rfl⟩ := Int.eq_ofNat_of_zero_le hk
  have e : (x : Int) + (y : Int) * (D.natAbs : Int) = ((x + y * D.natAbs : Nat) : Int) := by simp
  have hp : 0 < x + y * D.natAbs := by omega
  rw [e, kro_pos (by omega), kro_pos (by omega), Int.toNat_natCast, Int.toNat_natCast]
  exact jac_period h0 h4 x y (by omega)
theorem km_bd {k M : Int} (h1 : 0 ≤ k) (h2 : k ≤ 1048576) (h3 : 0 ≤ M) (h4 : M ≤ 8589934588) : 0 ≤ k * M ∧ k * M ≤ 9007199250546688 := by
  refine ⟨Int.mul_nonneg h1 h3, ?_⟩
  have a := Int.mul_le_mul_of_nonneg_right h2 h3
  omega

set_option maxHeartbeats 1000000 in
theorem period_law (d n k : Int) (w : World) (hT : TabW w) (hB : 0 < w.heap.size)
    (_ : -9223372036854775808 ≤ d) (_ : d ≤ 9223372036854775807) (hn1 : -9223372036854775808 ≤ n) (hn2 : n ≤ 9223372036854775807) (hk1 : -9223372036854775808 ≤ k) (hk2 : k ≤ 9223372036854775807) :
    Calls Tryd.prog 5 #[.int .i64 d, .int .i64 n, .int .i64 k] w fun x w' => x = .returned (.bool true) ∧ Below w.heap.size w w' := by
  have caw := awake_any w hT hB
  have cf := fun w => rfund_any d w
  have hfd := fund_disc (d := d)
  generalize fundOut d = o at *
  obtain ⟨D, F, E⟩ := o
  simp only at hfd cf
  have HTB := Lib.hid hT
  have CAW := Lib.hid caw
  have CF := Lib.hid cf
  clear hT caw cf
  by_cases hE : E = 0
  · obtain rfl := hE
    obtain ⟨h0, h4, hb⟩ := hfd rfl
    have hper := fun h1 h2 => kro_period (n := n) (k := k) h0 h4 h1 h2
    clear hfd h4
    by_cases hG : 1 ≤ n ∧ n ≤ 1099511627776 ∧ 0 ≤ k ∧ k ≤ 1048576
    · obtain ⟨g1, g2, g3, g4⟩ := hG
      have e1 : decide (n < 1) = false := by simpa using g1
      have e2 : decide (1099511627776 < n) = false := by simpa using g2
      have e3 : decide (k < 0) = false := by simpa using g3
      have e4 : decide (1048576 < k) = false := by simpa using g4
      have hp := hper g1 g3
      have hD : (D < 0 ∧ D = -(D.natAbs : Int)) ∨ (0 < D ∧ D = (D.natAbs : Int)) := by omega
      obtain ⟨b1, b2⟩ := km_bd (k := k) (M := (D.natAbs : Int)) g3 g4 (by omega) (by omega)
      generalize D.natAbs = M at *
      have ck1 := fun w1 (h : TabW w1) (h1 : -9223372036854775808 ≤ D) (h2 : D ≤ 9223372036854775807) => kronecker_any D n w1 h1 h2 hn1 hn2 h
      have ck2 := fun w1 (h : TabW w1) (h1 : -9223372036854775808 ≤ D) (h2 : D ≤ 9223372036854775807) => kronecker_any D (n + k * M) w1 h1 h2 (by omega) (by omega) h
      rw [hp] at ck2
      generalize kro D n = K at *
      have CK1 := Lib.hid ck1
      have CK2 := Lib.hid ck2
      clear ck1 ck2 hp hper
      rcases hD with ⟨hD, rfl⟩ | ⟨hD, rfl⟩
      all_goals
        go_enter Tryd.func5, Tryd.ntmps5
        go_wp2_with fail
        refine CAW.out.mono ?_
        rintro x w1 ⟨rfl, hb1⟩
        have HB1 := Lib.hid hb1
        have hT1 := HTB.out.below hb1 hB
        have HT1 := Lib.hid hT1
        have hs1 := hb1.size
        clear hb1 hT1
        go_wp2_with fail
        refine (CF.out _).mono ?_
        rintro x w2 ⟨rfl, hb2⟩
        have HT2 := Lib.hid (HT1.out.below hb2 (by omega))
        have HB2 := Lib.hid (HB1.out.trans (hb2.mono hs1))
        clear hb2
        go_wp2_with (first
          | (go_at_call 16; with_reducible refine (CK1.out _ HT2.out (by omega) (by omega)).mono ?_; rintro x w' ⟨rfl, rfl⟩)
          | (go_at_call 16; with_reducible refine (CK2.out _ HT2.out (by omega) (by omega)).mono ?_; rintro x w' ⟨rfl, rfl⟩))
        go_ret
        exact ⟨rfl, HB2.out⟩
    · clear hper
      go_enter Tryd.func5, Tryd.ntmps5
      go_wp2_with fail
      refine CAW.out.mono ?_
      rintro x w1 ⟨rfl, hb1⟩
      have HB1 := Lib.hid hb1
      have hs1 := hb1.size
      clear hb1
      go_wp2_with fail
      refine (CF.out _).mono ?_
      rintro x w2 ⟨rfl, hb2⟩
      have HB2 := Lib.hid (HB1.out.trans (hb2.mono hs1))
      clear hb2
      go_wp2_with fail
      all_goals go_ret
      all_goals exact ⟨rfl, HB2.out⟩
  · have hEb : (E != 0) = true := by simpa using hE
    clear hfd
    go_enter Tryd.func5, Tryd.ntmps5
    go_wp2_with fail
    refine CAW.out.mono ?_
    rintro x w1 ⟨rfl, hb1⟩
    have HB1 := Lib.hid hb1
    have hs1 := hb1.size
    clear hb1
    go_wp2_with fail
    refine (CF.out _).mono ?_
    rintro x w2 ⟨rfl, hb2⟩
    have HB2 := Lib.hid (HB1.out.trans (hb2.mono hs1))
    clear hb2
    go_wp2_with fail
    all_goals go_ret
    all_goals exact ⟨rfl, HB2.out⟩
end Go.Proofs.YtjmldlbiihaefaaDoor
