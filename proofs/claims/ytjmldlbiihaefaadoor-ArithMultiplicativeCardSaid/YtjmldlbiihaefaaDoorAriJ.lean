/- Walks: trial division, in arith and in the reference. -/
import Derived.Test.YtjmldlbiihaefaaDoorAriB
import Derived.Test.YtjmldlbiihaefaaDoorNumA
namespace Go.Proofs.YtjmldlbiihaefaaDoor
open Go.RowKit HP

set_option maxHeartbeats 400000 in
theorem prime_any (n : Int) (w : World) (hn : n ≤ 2147483647) :
    Calls Tryd.prog 65 #[.int .i64 n] w fun x w' => x = .returned (.bool (prmB n.toNat)) ∧ w = w' := by
  by_cases h2 : n < 2
  · have e : prmB n.toNat = false := prmB_small (by omega)
    have d1 : decide (n < 2) = true := by simpa using h2
    rw [e]
    clear e
    go_enter Tryd.func65, Tryd.ntmps65
    go_wp2
    go_ret
    exact ⟨rfl, rfl⟩
  · obtain ⟨N, rfl⟩ := Int.eq_ofNat_of_zero_le (show 0 ≤ n by omega)
    rw [Int.toNat_natCast]
    have d1 : decide ((N : Int) < 2) = false := by simpa using h2
    have hN2 : 2 ≤ N := by omega
    clear h2
    have hb : ∀ b, prmB N = b → Hid (prmB N = b) := fun b h => h
    go_enter Tryd.func65, Tryd.ntmps65
    go_wp2
    go_loop [3] (fun x => ∃ d : Nat, x = .int .i64 d ∧ 2 ≤ d ∧ d ≤ N ∧ Hid (Rough d N)) (fun x => N + 1 - (intOf x).toNat)
    case atStart => exact ⟨2, rfl, by omega, by omega, rough_two N⟩
    case round =>
      obtain ⟨d, rfl, h1, h2, h3⟩ := hrel
      by_cases hdd : d * d ≤ N
      · have hdd' : (d : Int) * d ≤ (N : Int) := by exact_mod_cast hdd
        have hpos : 0 ≤ (d : Int) * d := Int.mul_nonneg (by omega) (by omega)
        have hlt : d < N := by
          have : d * 2 ≤ d * d := Nat.mul_le_mul_left _ h1
          omega
        by_cases hm : N % d = 0
        · have e := hb _ (prmB_div h1 hlt (Nat.dvd_of_mod_eq_zero hm))
          have hm' : ((N : Int) % d == 0) = true := by rw [beq_iff_eq]; omega
          clear hm hdd hb
          go_wp2
          go_ret
          exact ⟨by rw [e.out]; rfl, rfl⟩
        · have hr := Lib.hid (rough_next h3.out fun h => hm (Nat.mod_eq_zero_of_dvd h))
          have hm' : ((N : Int) % d == 0) = false := by rw [beq_eq_false_iff_ne]; omega
          clear hm hdd hb h3
          go_wp2
          go_round
          case rel => exact ⟨d + 1, by go_num, by omega, by omega, hr.out⟩
          case measure => simp [intOf]; omega
      · have hdd' : (N : Int) < (d : Int) * d := by exact_mod_cast Nat.lt_of_not_le hdd
        have hsq : (d : Int) * d ≤ 2147483647 * 2147483647 := Int.mul_le_mul (by omega) (by omega) (by omega) (by omega)
        have e := hb _ (prmB_rough hN2 h3.out (Nat.lt_of_not_le hdd))
        clear hdd hb h3
        go_wp2
        go_ret
        exact ⟨by rw [e.out]; rfl, rfl⟩

theorem isprime_no (n : Int) (w : World) (hn : 2147483647 < n) :
    Calls Tryd.prog 27 #[.int .i64 n] w fun x w' => x = .returned (.tuple #[.bool false, .int .i64 2]) ∧ w = w' := by
  have d1 : decide (2147483647 < n) = true := by simpa using hn
  go_enter Tryd.func27, Tryd.ntmps27
  go_wp2
  go_ret2
  exact ⟨rfl, rfl⟩
theorem isprime_any (n : Int) (w : World) (hn : n ≤ 2147483647) :
    Calls Tryd.prog 27 #[.int .i64 n] w fun x w' => x = .returned (.tuple #[.bool (prmB n.toNat), .int .i64 0]) ∧ w = w' := by
  have d1 : decide (2147483647 < n) = false := by simpa using hn
  have c := fun w => prime_any n w hn
  generalize prmB n.toNat = b at *
  have C := Lib.hid c
  clear c
  go_enter Tryd.func27, Tryd.ntmps27
  go_wp2_with (go_at_call 65; refine (C.out _).mono ?_; rintro x w' ⟨rfl, rfl⟩)
  go_ret2
  exact ⟨rfl, rfl⟩

set_option maxHeartbeats 400000 in
theorem rprime_any (n : Int) (w : World) (hn : n ≤ 2147483647) :
    Calls Tryd.prog 28 #[.int .i64 n] w fun x w' => x = .returned (.bool (prmB n.toNat)) ∧ w = w' := by
  by_cases h2 : n < 2
  · have e : prmB n.toNat = false := prmB_small (by omega)
    have d1 : decide (1 < n) = false := by simp; omega
    have d2 : decide (4 ≤ n) = false := by simp; omega
    rw [e]
    clear e
    go_enter Tryd.func28, Tryd.ntmps28
    go_wp2
    refine wp_loop_rounds 1 ?_
    rw [rounds_succ]
    go_wp2
    go_ret
    exact ⟨rfl, rfl⟩
  · obtain ⟨N, rfl⟩ := Int.eq_ofNat_of_zero_le (show 0 ≤ n by omega)
    rw [Int.toNat_natCast]
    have d1 : decide (1 < (N : Int)) = true := by simp; omega
    have hN2 : 2 ≤ N := by omega
    clear h2
    have hb : ∀ b, prmB N = b → Hid (prmB N = b) := fun b h => h
    go_enter Tryd.func28, Tryd.ntmps28
    go_wp2
    go_loop [3] (fun x => ∃ d : Nat, x = .int .i64 d ∧ 2 ≤ d ∧ d ≤ N ∧ Hid (Rough d N)) (fun x => N + 1 - (intOf x).toNat)
    case atStart => exact ⟨2, rfl, by omega, by omega, rough_two N⟩
    case round =>
      obtain ⟨d, rfl, h1, h2, h3⟩ := hrel
      by_cases hdd : d * d ≤ N
      · have hdd' : (d : Int) * d ≤ (N : Int) := by exact_mod_cast hdd
        have hpos : 0 ≤ (d : Int) * d := Int.mul_nonneg (by omega) (by omega)
        have hlt : d < N := by
          have : d * 2 ≤ d * d := Nat.mul_le_mul_left _ h1
          omega
        by_cases hm : N % d = 0
        · have e := hb _ (prmB_div h1 hlt (Nat.dvd_of_mod_eq_zero hm))
          have hm' : ((N : Int) % d == 0) = true := by rw [beq_iff_eq]; omega
          clear hm hdd hb
          go_wp2
          go_ret
          exact ⟨by rw [e.out]; rfl, rfl⟩
        · have hr := Lib.hid (rough_next h3.out fun h => hm (Nat.mod_eq_zero_of_dvd h))
          have hm' : ((N : Int) % d == 0) = false := by rw [beq_eq_false_iff_ne]; omega
          clear hm hdd hb h3
          go_wp2
          go_round
          case rel => exact ⟨d + 1, by go_num, by omega, by omega, hr.out⟩
          case measure => simp [intOf]; omega
      · have hdd' : (N : Int) < (d : Int) * d := by exact_mod_cast Nat.lt_of_not_le hdd
        have hsq : (d : Int) * d ≤ 2147483647 * 2147483647 := Int.mul_le_mul (by omega) (by omega) (by omega) (by omega)
        have e := hb _ (prmB_rough hN2 h3.out (Nat.lt_of_not_le hdd))
        clear hdd hb h3
        go_wp2
        go_ret
        exact ⟨by rw [e.out]; rfl, rfl⟩
end Go.Proofs.YtjmldlbiihaefaaDoor
