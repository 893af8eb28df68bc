/- The law ArithKronecker: its walk. -/
import Derived.Test.YtjmldlbiihaefaaDoorRefD
namespace Go.Proofs.YtjmldlbiihaefaaDoor
open Go.RowKit HP

theorem rkro_any (a n : Int) (w : World) (ha1 : -9223372036854775808 ≤ a) (ha2 : a ≤ 9223372036854775807) (hn1 : -2147483647 ≤ n) (hn2 : n ≤ 2147483647) :
    Calls Tryd.prog 17 #[.int .i64 a, .int .i64 n] w fun e w' => e = .returned (.int .i64 (kro a n)) ∧ Below w.heap.size w w' := by
  by_cases h0 : n = 0
  · obtain rfl := h0
    exact rkro_zero a w
  · have e : kro a n = (if n < 0 ∧ a < 0 then -1 else 1) * jac a n.natAbs := by unfold kro; rw [if_neg h0]
    rw [e]
    refine rkro_ne a n _ n.natAbs w ha1 ha2 (by omega) (by omega) ?_
    split <;> omega

set_option maxHeartbeats 800000 in
theorem kron_law (a n : Int) (w : World) (hT : TabW w) (hB : 0 < w.heap.size)
    (ha1 : -9223372036854775808 ≤ a) (ha2 : a ≤ 9223372036854775807) (hn1 : -9223372036854775808 ≤ n) (hn2 : n ≤ 9223372036854775807) :
    Calls Tryd.prog 3 #[.int .i64 a, .int .i64 n] w fun x w' => x = .returned (.bool true) ∧ Below w.heap.size w w' := by
  have caw := awake_any w hT hB
  have ck := fun w1 (h : TabW w1) => kronecker_any a n w1 ha1 ha2 hn1 hn2 h
  have cr := fun w1 (h1 : -2147483647 ≤ n) (h2 : n ≤ 2147483647) => rkro_any a n w1 ha1 ha2 h1 h2
  obtain ⟨t1, t2⟩ := tri_bd (kro_tri a n)
  generalize kro a n = K at *
  have HTB := Lib.hid hT
  have CAW := Lib.hid caw
  have CK := Lib.hid ck
  have CR := Lib.hid cr
  clear hT caw ck cr
  by_cases hG : -2147483647 ≤ n ∧ n ≤ 2147483647
  · obtain ⟨g1, g2⟩ := hG
    have d1 : decide (2147483647 < n) = false := by simpa using g2
    have d2 : decide (n < -2147483647) = false := by simpa using g1
    go_enter Tryd.func3, Tryd.ntmps3
    go_wp2_with fail
    refine CAW.out.mono ?_
    rintro x w1 ⟨rfl, hb1⟩
    have hT1 := Lib.hid (HTB.out.below hb1 hB)
    have HB1 := Lib.hid hb1
    clear hb1
    go_wp2_with (first
      | (go_at_call 16; refine (CK.out _ hT1.out).mono ?_; rintro x w' ⟨rfl, rfl⟩)
      | (go_at_call 17; refine (CR.out _ g1 g2).mono ?_; rintro x w2 ⟨rfl, hb2⟩))
    go_ret
    refine ⟨rfl, HB1.out.trans (Below.mono (by assumption) HB1.out.size)⟩
  · have hG' : 2147483647 < n ∨ (¬ 2147483647 < n ∧ n < -2147483647) := by omega
    clear hG
    rcases hG' with g | ⟨g1, g⟩
    · have d1 : decide (2147483647 < n) = true := by simpa using g
      go_enter Tryd.func3, Tryd.ntmps3
      go_wp2_with fail
      refine CAW.out.mono ?_
      rintro x w1 ⟨rfl, hb1⟩
      have hT1 := Lib.hid (HTB.out.below hb1 hB)
      have HB1 := Lib.hid hb1
      clear hb1
      go_wp2_with (go_at_call 16; refine (CK.out _ hT1.out).mono ?_; rintro x w' ⟨rfl, rfl⟩)
      go_ret
      exact ⟨rfl, HB1.out⟩
    · have d1 : decide (2147483647 < n) = false := by simpa using g1
      have d2 : decide (n < -2147483647) = true := by simpa using g
      go_enter Tryd.func3, Tryd.ntmps3
      go_wp2_with fail
      refine CAW.out.mono ?_
      rintro x w1 ⟨rfl, hb1⟩
      have hT1 := Lib.hid (HTB.out.below hb1 hB)
      have HB1 := Lib.hid hb1
      clear hb1
      go_wp2_with (go_at_call 16; refine (CK.out _ hT1.out).mono ?_; rintro x w' ⟨rfl, rfl⟩)
      go_ret
      exact ⟨rfl, HB1.out⟩
end Go.Proofs.YtjmldlbiihaefaaDoor
