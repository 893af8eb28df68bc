/- The law ArithRoots: its walk. -/
import Derived.Test.YtjmldlbiihaefaaDoorRefK
import Derived.Test.YtjmldlbiihaefaaDoorLawKron
namespace Go.Proofs.YtjmldlbiihaefaaDoor
open Go.RowKit HP

theorem kro_leg {a : Int} {p : Nat} (hp : Prm p) (h2 : p ≠ 2) : kro a p = leg a p := by
  rw [kro_pos (by have := hp.1; omega), Int.toNat_natCast, jac_prime _ hp, kr, if_neg h2]
/-- what the law asks of a square root -/
def SqF (a : Int) (p : Nat) (x : Int) (ok : Bool) : Prop :=
  (ok = false ∧ x = 0 ∧ p ≠ 2 ∧ kro a p < 0) ∨ (ok = true ∧ 0 ≤ x ∧ 2 * x ≤ p ∧ x * x % p = a % p ∧ (p = 2 ∨ p ≠ 2 ∧ 0 ≤ kro a p))
theorem sqrt_any (a : Int) (p : Nat) (w : World) (hp : Prm p) (hp2 : p ≤ 2147483647) :
    Calls Tryd.prog 40 #[.int .i64 a, .int .i64 p] w fun e w' => ∃ (x : Int) (ok : Bool), e = .returned (.tuple #[.int .i64 x, .bool ok, .int .i64 0]) ∧ SqF a p x ok ∧ w = w' := by
  have h2p := hp.1
  by_cases h2 : p = 2
  · refine (sqrt_small a p w hp hp2 (.inr h2)).mono ?_
    rintro e w' ⟨rfl, rfl⟩
    subst h2
    refine ⟨_, _, rfl, .inr ⟨rfl, by omega, by omega, ?_, .inl rfl⟩, rfl⟩
    have : a % 2 = 0 ∨ a % 2 = 1 := by omega
    rcases this with h | h <;> (show a % 2 * (a % 2) % 2 = a % 2; rw [h]; rfl)
  · by_cases h0 : a % (p : Int) = 0
    · refine (sqrt_small a p w hp hp2 (.inl h0)).mono ?_
      rintro e w' ⟨rfl, rfl⟩
      rw [h0]
      refine ⟨_, _, rfl, .inr ⟨rfl, by omega, by omega, by rw [h0]; rfl, .inr ⟨h2, ?_⟩⟩, rfl⟩
      rw [kro_leg hp h2, leg_zero hp h2 (Int.dvd_of_emod_eq_zero h0)]
      exact Int.le_refl 0
    · have hnd : ¬ (p : Int) ∣ a := fun h => h0 (Int.emod_eq_zero_of_dvd h)
      have he := euler_leg hp h2 hnd
      by_cases h : Cong p (a ^ ((p - 1) / 2)) 1
      · refine (sqrt_yes a p w hp hp2 h2 h0 h).mono ?_
        rintro e w' ⟨x, rfl, x1, x2, x3, rfl⟩
        exact ⟨_, _, rfl, .inr ⟨rfl, x1, x2, x3.emod_eq, .inr ⟨h2, by rw [kro_leg hp h2]; exact he.2 h⟩⟩, rfl⟩
      · refine (sqrt_no a p w hp hp2 h2 h0 h).mono ?_
        rintro e w' ⟨rfl, rfl⟩
        refine ⟨_, _, rfl, .inl ⟨rfl, rfl, h2, ?_⟩, rfl⟩
        rw [kro_leg hp h2]
        exact Int.lt_of_not_ge fun h1 => h (he.1 h1)

set_option maxHeartbeats 2000000 in
set_option maxRecDepth 100000 in
theorem roots_range (a p : Int) (w : World) (hT : TabW w) (hB : 0 < w.heap.size) (h : p < 2 ∨ 2147483647 < p) :
    Calls Tryd.prog 11 #[.int .i64 a, .int .i64 p] w fun x w' => x = .returned (.bool true) ∧ Below w.heap.size w w' := by
  have caw := awake_any w hT hB
  have C1 := Lib.hid fun w => proot_err p 2 w (by decide) fun w => modulus_range p w h
  have C2 := Lib.hid fun w => sqrt_err a p 2 w (by decide) fun w => modulus_range p w h
  have CAW := Lib.hid caw
  clear caw hT
  by_cases h2 : p < 2
  · have d1 : decide (p < 2) = true := by rw [decide_eq_true_iff]; exact h2
    clear h h2
    go_enter Tryd.func11, Tryd.ntmps11
    go_wp2_with fail
    refine CAW.out.mono ?_
    rintro x w1 ⟨rfl, hb1⟩
    have HB1 := Lib.hid hb1
    have hs1 := hb1.size
    clear hb1
    go_wp2_with (first
      | (go_at_call 39; refine (C1.out _).mono ?_; rintro x w' ⟨rfl, rfl⟩)
      | (go_at_call 40; refine (C2.out _).mono ?_; rintro x w' ⟨rfl, rfl⟩))
    go_ret
    exact ⟨rfl, HB1.out⟩
  · have d1 : decide (p < 2) = false := by rw [decide_eq_false_iff_not]; exact h2
    have d2 : decide (2147483647 < p) = true := by rw [decide_eq_true_iff]; omega
    clear h h2
    go_enter Tryd.func11, Tryd.ntmps11
    go_wp2_with fail
    refine CAW.out.mono ?_
    rintro x w1 ⟨rfl, hb1⟩
    have HB1 := Lib.hid hb1
    have hs1 := hb1.size
    clear hb1
    go_wp2_with (first
      | (go_at_call 39; refine (C1.out _).mono ?_; rintro x w' ⟨rfl, rfl⟩)
      | (go_at_call 40; refine (C2.out _).mono ?_; rintro x w' ⟨rfl, rfl⟩))
    go_ret
    exact ⟨rfl, HB1.out⟩
set_option maxHeartbeats 2000000 in
set_option maxRecDepth 100000 in
theorem roots_no (a : Int) (p : Nat) (w : World) (hT : TabW w) (hB : 0 < w.heap.size) (h2 : 2 ≤ p) (hp2 : p ≤ 2147483647) (h : ¬ Prm p) :
    Calls Tryd.prog 11 #[.int .i64 a, .int .i64 p] w fun x w' => x = .returned (.bool true) ∧ Below w.heap.size w w' := by
    have caw := awake_any w hT hB
    have C1 := Lib.hid fun w => proot_err p 8 w (by decide) fun w => modulus_any p false w h2 hp2 (prmB_not h)
    have C2 := Lib.hid fun w => sqrt_err a p 8 w (by decide) fun w => modulus_any p false w h2 hp2 (prmB_not h)
    have c3 := fun w => rprime_any (p : Int) w (by omega)
    rw [Int.toNat_natCast, prmB_not h] at c3
    have C3 := Lib.hid c3
    have CAW := Lib.hid caw
    have d1 : decide ((p : Int) < 2) = false := by rw [decide_eq_false_iff_not]; omega
    have d2 : decide (2147483647 < (p : Int)) = false := by rw [decide_eq_false_iff_not]; omega
    clear caw hT c3 h
    go_enter Tryd.func11, Tryd.ntmps11
    go_wp2_with fail
    refine CAW.out.mono ?_
    rintro x w1 ⟨rfl, hb1⟩
    have HB1 := Lib.hid hb1
    have hs1 := hb1.size
    clear hb1
    go_wp2_with (first
      | (go_at_call 39; refine (C1.out _).mono ?_; rintro x w' ⟨rfl, rfl⟩)
      | (go_at_call 28; refine (C3.out _).mono ?_; rintro x w' ⟨rfl, rfl⟩)
      | (go_at_call 40; refine (C2.out _).mono ?_; rintro x w' ⟨rfl, rfl⟩))
    go_ret
    exact ⟨rfl, HB1.out⟩
set_option maxHeartbeats 2000000 in
set_option maxRecDepth 100000 in
theorem roots_ok (a : Int) (p : Nat) (w : World) (hT : TabW w) (hB : 0 < w.heap.size) (hp2 : p ≤ 2147483647) (hp : Prm p) (ha1 : -9223372036854775808 ≤ a) (ha2 : a ≤ 9223372036854775807) :
    Calls Tryd.prog 11 #[.int .i64 a, .int .i64 p] w fun x w' => x = .returned (.bool true) ∧ Below w.heap.size w w' := by
    have caw := awake_any w hT hB
    obtain ⟨g, g1, g2, g3, g4⟩ := prim_least hp
    have C1 := Lib.hid fun w => proot_ok p g w hp hp2 g1 g2 g3 g4
    have C2 := Lib.hid fun w => sqrt_any a p w hp hp2
    have C4 := Lib.hid fun w => rproot_any p g w hp hp2 g1 g2 g3 g4
    have c3 := fun w => rprime_any (p : Int) w (by omega)
    rw [Int.toNat_natCast, prmB_of hp] at c3
    have C3 := Lib.hid c3
    have C5 := Lib.hid fun w => rkro_any a p w ha1 ha2 (by omega) (by omega)
    have C6 := Lib.hid fun w => rmod_any a p w (by have := hp.1; omega) (by omega)
    have h2p := hp.1
    have CAW := Lib.hid caw
    have d1 : decide ((p : Int) < 2) = false := by rw [decide_eq_false_iff_not]; omega
    have d2 : decide (2147483647 < (p : Int)) = false := by rw [decide_eq_false_iff_not]; omega
    clear caw hT c3 hp g3 g4
    go_enter Tryd.func11, Tryd.ntmps11
    go_wp2_with fail
    refine CAW.out.mono ?_
    rintro x w1 ⟨rfl, hb1⟩
    have HB1 := Lib.hid hb1
    have hs1 := hb1.size
    clear hb1
    go_wp2_with fail
    refine (C1.out _).mono ?_
    rintro x w2 ⟨rfl, hb2⟩
    have hs2 := hb2.size
    have HB2 := Lib.hid (HB1.out.trans (hb2.mono hs1))
    clear hb2
    go_wp2_with fail
    refine (C2.out _).mono ?_
    rintro x w' ⟨x, ok, rfl, hsq, rfl⟩
    go_wp2_with (go_at_call 28; refine (C3.out _).mono ?_; rintro x w' ⟨rfl, rfl⟩)
    refine (C4.out _).mono ?_
    rintro x w4 ⟨rfl, hb4⟩
    have hs4 := hb4.size
    have HB4 := Lib.hid (HB2.out.trans (hb4.mono (by omega)))
    clear hb4
    rcases hsq with ⟨rfl, rfl, hne, hk⟩ | ⟨rfl, x1, x2, x3, ⟨he⟩ | ⟨hne, hk⟩⟩
    · have t1 : ((p : Int) == 2) = false := by rw [beq_eq_false_iff_ne]; omega
      have t2 : decide (0 ≤ kro a p) = false := by rw [decide_eq_false_iff_not]; omega
      generalize kro a p = K at *
      go_wp2_with fail
      refine (C5.out _).mono ?_
      rintro x w5 ⟨rfl, hb5⟩
      have HB5 := Lib.hid (HB4.out.trans (hb5.mono (by omega)))
      clear hb5
      go_wp2_with fail
      go_ret
      exact ⟨rfl, HB5.out⟩
    · have t1 : ((p : Int) == 2) = true := by rw [beq_iff_eq]; omega
      have t3 : decide (0 ≤ x) = true := by rw [decide_eq_true_iff]; exact x1
      have t4 : decide (x ≤ (p : Int) / 2) = true := by rw [decide_eq_true_iff]; omega
      have t5 : (x * x % (p : Int) == a % (p : Int)) = true := by rw [beq_iff_eq]; exact x3
      obtain ⟨o1, o2⟩ := mul_bd x1 (show x ≤ 2147483647 by omega) x1 (by omega)
      generalize a % (p : Int) = r at *
      clear x3 he
      go_wp2_with fail
      go_quiet ((go_at_call 22; first | exact quiet_add_left (C6.out _) | exact quiet_left (C6.out _)))
      go_wp2
      go_ret
      exact ⟨rfl, by first | exact below_drewN HB4.out _ | exact below_drewN (below_drewN HB4.out _) _⟩
    · have t1 : ((p : Int) == 2) = false := by rw [beq_eq_false_iff_ne]; omega
      have t2 : decide (0 ≤ kro a p) = true := by rw [decide_eq_true_iff]; omega
      have t3 : decide (0 ≤ x) = true := by rw [decide_eq_true_iff]; exact x1
      have t4 : decide (x ≤ (p : Int) / 2) = true := by rw [decide_eq_true_iff]; omega
      have t5 : (x * x % (p : Int) == a % (p : Int)) = true := by rw [beq_iff_eq]; exact x3
      obtain ⟨o1, o2⟩ := mul_bd x1 (show x ≤ 2147483647 by omega) x1 (by omega)
      generalize a % (p : Int) = r at *
      generalize kro a p = K at *
      clear x3
      go_wp2_with fail
      refine (C5.out _).mono ?_
      rintro x w5 ⟨rfl, hb5⟩
      have HB5 := Lib.hid (HB4.out.trans (hb5.mono (by omega)))
      clear hb5
      go_wp2_with fail
      go_quiet ((go_at_call 22; first | exact quiet_add_left (C6.out _) | exact quiet_left (C6.out _)))
      go_wp2
      go_ret
      exact ⟨rfl, by first | exact below_drewN HB5.out _ | exact below_drewN (below_drewN HB5.out _) _⟩

theorem roots_law (a p : Int) (w : World) (hT : TabW w) (hB : 0 < w.heap.size) (ha1 : -9223372036854775808 ≤ a) (ha2 : a ≤ 9223372036854775807) (_ : -9223372036854775808 ≤ p) (_ : p ≤ 9223372036854775807) :
    Calls Tryd.prog 11 #[.int .i64 a, .int .i64 p] w fun x w' => x = .returned (.bool true) ∧ Below w.heap.size w w' := by
  by_cases h : p < 2 ∨ 2147483647 < p
  · exact roots_range a p w hT hB h
  · obtain ⟨P, rfl⟩ := Int.eq_ofNat_of_zero_le (show 0 ≤ p by omega)
    by_cases hp : Prm P
    · exact roots_ok a P w hT hB (by omega) hp ha1 ha2
    · exact roots_no a P w hT hB (by omega) (by omega) hp
end Go.Proofs.YtjmldlbiihaefaaDoor
