/- Walks of arith's Kronecker symbol: the table of trailing zeros, reduced, jacobi, Kronecker. -/
import Derived.Test.YtdjfndfkjbjcpaaGreatDoorAriA
import Derived.Lib.TrailingZeros
import Derived.Laws.Bits64b
namespace Go.Proofs.YtdjfndfkjbjcpaaGreatDoor
open Go.RowKit HP

def TabW (w : World) : Prop := ∀ j, j < 64 → w.cell? ⟨0, j, none⟩ = some (.int .u8 (Lib.deBruijn64tab.getD j 0))
theorem TabW.drewN {w : World} (h : TabW w) (n : Nat) : TabW (w.drewN n) := h

set_option maxHeartbeats 400000 in
theorem tz64_core (x k idx : Nat) (w : World) (hx0 : ((x : Int) == 0) = false)
    (key : IntKind.u64.wrap (bits BinOp.and IntKind.u64 (x : Int) (IntKind.u64.wrap (-(x : Int))) * 285870213051353865) / 288230376151711744 = (idx : Int))
    (hi : idx < 64) (hk : k < 64) (hcell : w.cell? ⟨0, idx, none⟩ = some (.int .u8 k)) :
    Calls Tryz.prog 122 #[.int .u64 x] w fun e w' => e = .returned (.int .i64 k) ∧ w = w' := by
  go_enter Tryz.func122, Tryz.ntmps122
  go_wp2_with (simp only [key])
  go_ret
  exact ⟨rfl, rfl⟩
theorem tz64_key (x a : Nat) (hx : x < 18446744073709551616) (hx0 : x ≠ 0) (hlow : x &&& (18446744073709551616 - x) = a) :
    IntKind.u64.wrap (bits BinOp.and IntKind.u64 (x : Int) (IntKind.u64.wrap (-(x : Int))) * 285870213051353865) / 288230376151711744 = ((a * 285870213051353865 % 18446744073709551616 / 288230376151711744 : Nat) : Int) := by
  have e1 : IntKind.u64.wrap (-(x : Int)) = ((18446744073709551616 - x : Nat) : Int) := by rw [IntKind.wrap_u64]; omega
  rw [e1, bits_and_u64_nat x _ hx (by omega), hlow, IntKind.wrap_u64]
  omega
theorem ctz_spec (x : Nat) (h0 : x ≠ 0) (hx : x < 18446744073709551616) : ∃ b, x = 2 ^ Lib.ctz 64 x * b ∧ b % 2 = 1 ∧ Lib.ctz 64 x < 64 := by
  obtain ⟨m, hm, hk⟩ := Lib.ctzFrom_spec 64 x (by omega) hx
  have e : Lib.ctz 64 x = Lib.ctzFrom 64 x := by simp [Lib.ctz, h0]
  rw [e]
  exact ⟨2 * m + 1, hm, by omega, hk⟩
theorem tz64_any (x : Nat) (hx : x < 18446744073709551616) (h0 : x ≠ 0) (w : World) (hT : TabW w) :
    Calls Tryz.prog 122 #[.int .u64 x] w fun e w' => e = .returned (.int .i64 (Lib.ctz 64 x)) ∧ w = w' := by
  obtain ⟨hlow, hk⟩ := Lib.lowest_bit 64 x h0 hx
  obtain ⟨hi, htab⟩ := Lib.deBruijn64_at _ hk
  have hcell := hT _ hi
  rw [htab] at hcell
  exact tz64_core x _ _ w (by simp; omega) (tz64_key x _ hx h0 hlow) hi hk hcell

theorem u64_neg {a : Int} (h1 : -9223372036854775808 ≤ a) (h2 : a < 0) : IntKind.u64.wrap (-IntKind.u64.wrap a) = -a := by
  rw [IntKind.wrap_u64, IntKind.wrap_u64]; omega

theorem reduced_any (a m : Int) (w : World) (ha1 : -9223372036854775808 ≤ a) (ha2 : a ≤ 9223372036854775807) (hm : 0 < m) (hm2 : m ≤ 18446744073709551615) :
    Calls Tryz.prog 124 #[.int .i64 a, .int .u64 m] w fun e w' => e = .returned (.int .u64 (a % m)) ∧ w = w' := by
  by_cases h : 0 ≤ a
  · go_enter Tryz.func124, Tryz.ntmps124
    go_wp2
    go_ret
    exact ⟨rfl, rfl⟩
  · have k := u64_neg ha1 (show a < 0 by omega)
    have b1 := Int.emod_nonneg (-a) (show m ≠ 0 by omega)
    have b2 := Int.emod_lt_of_pos (-a) hm
    go_enter Tryz.func124, Tryz.ntmps124
    go_wp2
    · have h : a.tmod m < 0 := by assumption
      have e := tmod_neg hm h
      go_ret
      have b3 := Int.emod_nonneg a (show m ≠ 0 by omega)
      have b4 := Int.emod_lt_of_pos a hm
      exact ⟨ret_int (by rw [← e, IntKind.wrap_u64]; omega), rfl⟩
    · have h1 : 0 ≤ a.tmod m := by assumption
      have e := tmod_nonneg hm h1
      have h2 : a.tmod m ≤ 0 := by
        have := Int.tmod_nonneg m (show 0 ≤ -a by omega)
        rw [Int.neg_tmod] at this; omega
      go_ret
      exact ⟨ret_int (by omega), rfl⟩

theorem shr_pow {x z b : Nat} (h : x = 2 ^ z * b) : x / 2 ^ z = b := by
  rw [h, Nat.mul_div_cancel_left _ (Nat.pow_pos (by omega))]

set_option maxHeartbeats 800000 in
theorem jacobi_any (a m : Nat) (w : World) (ha : a < 18446744073709551616) (hm : m < 18446744073709551616) (ho : m % 2 = 1) (hT : TabW w) :
    Calls Tryz.prog 123 #[.int .u64 a, .int .u64 m] w fun e w' => e = .returned (.int .i64 (jac a m)) ∧ w = w' := by
  go_enter Tryz.func123, Tryz.ntmps123
  go_wp2
  go_loop [0, 1, 5] (fun x y s => ∃ (a' m' : Nat) (o : Int), x = .int .u64 a' ∧ y = .int .u64 m' ∧ s = .int .i64 o ∧ a' < 18446744073709551616 ∧ m' < 18446744073709551616 ∧ Hid (m' % 2 = 1) ∧ -1 ≤ o ∧ o ≤ 1 ∧ Hid (o * jac a' m' = jac a m)) (fun x _ _ => (intOf x).toNat)
  case atStart => exact ⟨a, m, 1, rfl, rfl, rfl, ha, hm, ho, by omega, by omega, Int.one_mul _⟩
  case round =>
    obtain ⟨a', m', o, rfl, rfl, rfl, h1, h2, h3, h4, h5, h6⟩ := hrel
    by_cases h0 : a' = 0
    · obtain rfl := h0
      by_cases hm1 : m' = 1
      · obtain rfl := hm1
        go_wp2
        go_ret
        exact ⟨ret_int (by rw [← h6]; exact (by rw [jac_one, Int.mul_one])), rfl⟩
      · go_wp2
        go_ret
        refine ⟨ret_int ?_, rfl⟩
        have h6' : o * jac ((0 : Nat) : Int) m' = jac a m := h6
        have e0 : ((0 : Nat) : Int) = 0 := rfl
        rw [← h6', e0, jac_end h3, if_neg hm1, Int.mul_zero]
    · obtain ⟨b, hb1, hb2, hz⟩ := ctz_spec a' h0 h1
      have c := tz64_any a' h1 h0 w hT
      generalize Lib.ctz 64 a' = z at *
      have hsh : (a' : Int) / 2 ^ z = (b : Int) := by
        rw [← shr_pow hb1]; simp
      have hba : b ≤ a' := by rw [hb1]; exact Nat.le_mul_of_pos_left _ (Nat.pow_pos (by omega))
      have hbpos : 0 < b := by omega
      have hmod : m' % b < b := Nat.mod_lt _ hbpos
      have J : o * (flip2 z m' * s44 b m' * jac ((m' % b : Nat) : Int) b) = jac a m := by rw [← jac_round h3 hb2 hb1]; exact h6
      have C := Lib.hid c
      have B1 := Lib.hid hb1
      have B2 := Lib.hid hb2
      have JJ := Lib.hid J
      clear c hb1 hb2 J h6
      go_wp2_with (go_at_call 122; refine C.out.mono ?_; rintro e w' ⟨rfl, rfl⟩)
      all_goals go_round
      all_goals (first | (refine ⟨m' % b, b, _, by simp, rfl, rfl, by omega, by omega, B2.out, by omega, by omega, ?_⟩) | (simp [intOf]; omega))
      all_goals
        have j := JJ.out
        show _ * jac _ _ = _
        clear JJ B1 C
        try simp only [beq_iff_eq, beq_eq_false_iff_ne] at *
        rw [← j]
        unfold flip2 s44
        split <;> split <;> first | (exfalso; omega) | grind

theorem kro_parts {a n : Int} {M z b : Nat} (hn : n ≠ 0) (hM : n.natAbs = M) (h : M = 2 ^ z * b) (hb : b % 2 = 1) :
    kro a n = (if n < 0 ∧ a < 0 then -1 else 1) * (two a ^ z * jac (a % b) b) := by
  unfold kro
  rw [if_neg hn, hM, jac_odd_part (by omega) h, jac_emod _ hb]
theorem two_even {a : Int} (h : a % 2 = 0) : two a = 0 := by
  unfold two; rw [if_neg (by omega), if_neg (by omega)]
theorem two_pow_odd {a : Int} (h : a % 2 = 1) (z : Nat) : two a ^ z = if z % 2 = 1 ∧ (a % 8 = 3 ∨ a % 8 = 5) then -1 else 1 := by
  unfold two
  by_cases h1 : a % 8 = 1 ∨ a % 8 = 7
  · rw [if_pos h1, Int.one_pow, if_neg (by omega)]
  · rw [if_neg h1, if_pos (by omega), sg_pow]
    unfold sg
    by_cases h2 : z % 2 = 0
    · rw [if_pos h2, if_neg (by omega)]
    · rw [if_neg h2, if_pos (by omega)]

theorem kro_zero (a : Int) (w : World) : Calls Tryz.prog 83 #[.int .i64 a, .int .i64 0] w fun e w' => e = .returned (.int .i64 (kro a 0)) ∧ w = w' := by
  by_cases h : a = 1 ∨ a = -1
  · have e : kro a 0 = 1 := by unfold kro; rw [if_pos rfl, if_pos h]
    rw [e]
    clear e
    rcases h with rfl | rfl
    · go_enter Tryz.func83, Tryz.ntmps83
      go_wp2
      go_ret
      exact ⟨rfl, rfl⟩
    · go_enter Tryz.func83, Tryz.ntmps83
      go_wp2
      go_ret
      exact ⟨rfl, rfl⟩
  · have e : kro a 0 = 0 := by unfold kro; rw [if_pos rfl, if_neg h]
    rw [e]
    have h1 : (a == 1) = false := beq_eq_false_iff_ne.2 fun x => h (.inl x)
    have h2 : (a == -1) = false := beq_eq_false_iff_ne.2 fun x => h (.inr x)
    clear e h
    go_enter Tryz.func83, Tryz.ntmps83
    go_wp2
    go_ret
    exact ⟨rfl, rfl⟩

set_option maxHeartbeats 1000000 in
theorem kro_pos_any (a : Int) (M : Nat) (w : World) (ha1 : -9223372036854775808 ≤ a) (ha2 : a ≤ 9223372036854775807) (h0 : M ≠ 0) (hM : M ≤ 9223372036854775807) (hT : TabW w) :
    Calls Tryz.prog 83 #[.int .i64 a, .int .i64 M] w fun e w' => e = .returned (.int .i64 (kro a M)) ∧ w = w' := by
  obtain ⟨b, hb1, hb2, hz⟩ := ctz_spec M h0 (by omega)
  have c := tz64_any M (by omega) h0 w hT
  generalize Lib.ctz 64 M = z at *
  have hsh : (M : Int) / 2 ^ z = (b : Int) := by
    rw [← shr_pow hb1]; simp
  have hba : b ≤ M := by rw [hb1]; exact Nat.le_mul_of_pos_left _ (Nat.pow_pos (by omega))
  have hbpos : 0 < b := by omega
  have K := Lib.hid (kro_parts (a := a) (n := (M : Int)) (by omega) (by omega) hb1 hb2)
  obtain ⟨r, hr⟩ := Int.eq_ofNat_of_zero_le (Int.emod_nonneg a (show (b : Int) ≠ 0 by omega))
  have hrb : r < b := by have := Int.emod_lt_of_pos a (show (0 : Int) < b by omega); omega
  have cr := reduced_any a b w ha1 ha2 (by omega) (by omega)
  rw [hr] at cr K
  have cj := jacobi_any r b w (by omega) (by omega) hb2 hT
  have ht := jac_tri r b (by omega)
  have hJ1 : -1 ≤ jac r b ∧ jac r b ≤ 1 := by rcases ht with h | h | h <;> rw [h] <;> decide
  obtain ⟨hJ1, hJ2⟩ := hJ1
  generalize jac r b = J at *
  have C := Lib.hid c
  have CR := Lib.hid cr
  have CJ := Lib.hid cj
  clear c cr cj ht hr hb1
  have B2 := Lib.hid hb2
  clear hb2
  have hz' : z = 0 ∨ 0 < z := by omega
  rcases hz' with rfl | hz0
  · have hsh' : b = M := by have : (M : Int) / 2 ^ 0 = M := by simp
                            omega
    obtain rfl := hsh'
    clear hsh
    go_enter Tryz.func83, Tryz.ntmps83
    go_wp2_with (first
      | (go_at_call 122; refine C.out.mono ?_; rintro e w' ⟨rfl, rfl⟩)
      | (go_at_call 124; refine CR.out.mono ?_; rintro e w' ⟨rfl, rfl⟩)
      | (go_at_call 123; refine CJ.out.mono ?_; rintro e w' ⟨rfl, rfl⟩))
    go_ret
    refine ⟨ret_int ?_, rfl⟩
    rw [K.out, if_neg (by omega)]
    simp
  · have he : a % 2 = 0 ∨ a % 2 = 1 := by omega
    rcases he with he | he
    · have e0 : kro a M = 0 := by
        rw [K.out, two_even he, Int.zero_pow (by omega)]; simp
      have E := Lib.hid e0
      clear e0
      have hte : (a.tmod 2 == 0) = true := by rw [beq_iff_eq, Int.tmod_eq_emod]; split <;> omega
      go_enter Tryz.func83, Tryz.ntmps83
      go_wp2_with (first
        | (go_at_call 122; refine C.out.mono ?_; rintro e w' ⟨rfl, rfl⟩))
      go_ret
      exact ⟨ret_int (by rw [E.out]), rfl⟩
    · have hto : (a.tmod 2 == 0) = false := by rw [beq_eq_false_iff_ne, Int.tmod_eq_emod]; split <;> omega
      have E := Lib.hid (two_pow_odd he z)
      go_enter Tryz.func83, Tryz.ntmps83
      go_wp2_with (first
        | (go_at_call 122; refine C.out.mono ?_; rintro e w' ⟨rfl, rfl⟩)
        | (go_at_call 75; refine (residue_any a 8 w (by omega) (by omega)).mono ?_; rintro e w' ⟨rfl, rfl⟩)
        | (go_at_call 124; refine CR.out.mono ?_; rintro e w' ⟨rfl, rfl⟩)
        | (go_at_call 123; refine CJ.out.mono ?_; rintro e w' ⟨rfl, rfl⟩))
      all_goals go_ret
      all_goals
        refine ⟨ret_int ?_, rfl⟩
        rw [K.out, if_neg (by omega), E.out, Int.one_mul]
        try simp only [beq_iff_eq, beq_eq_false_iff_ne] at *
        split <;> first | (exfalso; omega) | omega
set_option maxHeartbeats 1000000 in
theorem kro_neg_any (a : Int) (M : Nat) (w : World) (ha1 : -9223372036854775808 ≤ a) (ha2 : a ≤ 9223372036854775807) (h0 : M ≠ 0) (hM : M ≤ 9223372036854775808) (hT : TabW w) :
    Calls Tryz.prog 83 #[.int .i64 a, .int .i64 (-(M : Int))] w fun e w' => e = .returned (.int .i64 (kro a (-(M : Int)))) ∧ w = w' := by
  obtain ⟨b, hb1, hb2, hz⟩ := ctz_spec M h0 (by omega)
  have c := tz64_any M (by omega) h0 w hT
  have hwr : IntKind.u64.wrap (-IntKind.u64.wrap (-(M : Int))) = (M : Int) := by rw [IntKind.wrap_u64, IntKind.wrap_u64]; omega
  generalize Lib.ctz 64 M = z at *
  have hsh : (M : Int) / 2 ^ z = (b : Int) := by
    rw [← shr_pow hb1]; simp
  have hba : b ≤ M := by rw [hb1]; exact Nat.le_mul_of_pos_left _ (Nat.pow_pos (by omega))
  have hbpos : 0 < b := by omega
  have K := Lib.hid (kro_parts (a := a) (n := -(M : Int)) (by omega) (by omega) hb1 hb2)
  obtain ⟨r, hr⟩ := Int.eq_ofNat_of_zero_le (Int.emod_nonneg a (show (b : Int) ≠ 0 by omega))
  have hrb : r < b := by have := Int.emod_lt_of_pos a (show (0 : Int) < b by omega); omega
  have cr := reduced_any a b w ha1 ha2 (by omega) (by omega)
  rw [hr] at cr K
  have cj := jacobi_any r b w (by omega) (by omega) hb2 hT
  have ht := jac_tri r b (by omega)
  have hJ1 : -1 ≤ jac r b ∧ jac r b ≤ 1 := by rcases ht with h | h | h <;> rw [h] <;> decide
  obtain ⟨hJ1, hJ2⟩ := hJ1
  generalize jac r b = J at *
  have C := Lib.hid c
  have CR := Lib.hid cr
  have CJ := Lib.hid cj
  clear c cr cj ht hr hb1
  have B2 := Lib.hid hb2
  clear hb2
  have hz' : z = 0 ∨ 0 < z := by omega
  rcases hz' with rfl | hz0
  · have hsh' : b = M := by have : (M : Int) / 2 ^ 0 = M := by simp
                            omega
    obtain rfl := hsh'
    clear hsh
    go_enter Tryz.func83, Tryz.ntmps83
    go_wp2_with (first
      | (go_at_call 122; refine C.out.mono ?_; rintro e w' ⟨rfl, rfl⟩)
      | (go_at_call 124; refine CR.out.mono ?_; rintro e w' ⟨rfl, rfl⟩)
      | (go_at_call 123; refine CJ.out.mono ?_; rintro e w' ⟨rfl, rfl⟩))
    all_goals go_ret
    all_goals
      refine ⟨ret_int ?_, rfl⟩
      rw [K.out]
      split <;> first | (exfalso; omega) | (simp; done)
  · have he : a % 2 = 0 ∨ a % 2 = 1 := by omega
    rcases he with he | he
    · have e0 : kro a (-(M : Int)) = 0 := by
        rw [K.out, two_even he, Int.zero_pow (by omega)]; simp
      have E := Lib.hid e0
      clear e0
      have hte : (a.tmod 2 == 0) = true := by rw [beq_iff_eq, Int.tmod_eq_emod]; split <;> omega
      go_enter Tryz.func83, Tryz.ntmps83
      go_wp2_with (first
        | (go_at_call 122; refine C.out.mono ?_; rintro e w' ⟨rfl, rfl⟩))
      all_goals go_ret
      all_goals exact ⟨ret_int (by rw [E.out]), rfl⟩
    · have hto : (a.tmod 2 == 0) = false := by rw [beq_eq_false_iff_ne, Int.tmod_eq_emod]; split <;> omega
      have E := Lib.hid (two_pow_odd he z)
      go_enter Tryz.func83, Tryz.ntmps83
      go_wp2_with (first
        | (go_at_call 122; refine C.out.mono ?_; rintro e w' ⟨rfl, rfl⟩)
        | (go_at_call 75; refine (residue_any a 8 w (by omega) (by omega)).mono ?_; rintro e w' ⟨rfl, rfl⟩)
        | (go_at_call 124; refine CR.out.mono ?_; rintro e w' ⟨rfl, rfl⟩)
        | (go_at_call 123; refine CJ.out.mono ?_; rintro e w' ⟨rfl, rfl⟩))
      all_goals go_ret
      all_goals
        refine ⟨ret_int ?_, rfl⟩
        rw [K.out, E.out]
        try simp only [beq_iff_eq, beq_eq_false_iff_ne] at *
        split <;> split <;> first | (exfalso; omega) | omega

theorem kronecker_any (a n : Int) (w : World) (ha1 : -9223372036854775808 ≤ a) (ha2 : a ≤ 9223372036854775807) (hn1 : -9223372036854775808 ≤ n) (hn2 : n ≤ 9223372036854775807) (hT : TabW w) :
    Calls Tryz.prog 83 #[.int .i64 a, .int .i64 n] w fun e w' => e = .returned (.int .i64 (kro a n)) ∧ w = w' := by
  rcases Int.lt_trichotomy n 0 with h | h | h
  · obtain ⟨M, hM⟩ : ∃ M : Nat, n = -(M : Int) := ⟨n.natAbs, by omega⟩
    obtain rfl := hM
    exact kro_neg_any a M w ha1 ha2 (by omega) (by omega) hT
  · obtain rfl := h
    exact kro_zero a w
  · obtain ⟨M, hM⟩ : ∃ M : Nat, n = (M : Int) := ⟨n.natAbs, by omega⟩
    obtain rfl := hM
    exact kro_pos_any a M w ha1 ha2 (by omega) (by omega) hT
end Go.Proofs.YtdjfndfkjbjcpaaGreatDoor
