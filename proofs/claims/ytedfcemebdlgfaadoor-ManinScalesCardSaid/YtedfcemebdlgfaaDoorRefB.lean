/- Walks of the reference: Mod, two, Power, Factor. -/
import Derived.Test.YtedfcemebdlgfaaDoorAriG
namespace Go.Proofs.YtedfcemebdlgfaaDoor
open Go.RowKit HP

theorem rmod_any (a m : Int) (w : World) (hm : 0 < m) (hm2 : m ≤ 9223372036854775807) :
    Calls Tryd.prog 93 #[.int .i64 a, .int .i64 m] w fun e w' => e = .returned (.int .i64 (a % m)) ∧ w = w' := by
  have b1 := Int.emod_nonneg a (show m ≠ 0 by omega)
  have b2 := Int.emod_lt_of_pos a hm
  go_enter Tryd.func93, Tryd.ntmps93
  go_wp2
  · have h : a.tmod m < 0 := by assumption
    go_ret
    exact ⟨ret_int (by rw [tmod_neg hm h, IntWalk.wrap64_in _ (by omega)]), rfl⟩
  · have h : 0 ≤ a.tmod m := by assumption
    go_ret
    exact ⟨ret_int (tmod_nonneg hm h), rfl⟩

theorem rtwo_any (a : Int) (w : World) : Calls Tryd.prog 75 #[.int .i64 a] w fun e w' => e = .returned (.int .i64 (two a)) ∧ w = w' := by
  have hc := mod8_cases a
  have b1 := Int.emod_nonneg a (show (8 : Int) ≠ 0 by omega)
  have b2 := Int.emod_lt_of_pos a (show (0 : Int) < 8 by omega)
  have e : two a = if a % 8 = 1 ∨ a % 8 = 7 then 1 else if a % 8 = 3 ∨ a % 8 = 5 then -1 else 0 := rfl
  rw [e]
  have c := fun w => rmod_any a 8 w (by omega) (by omega)
  clear e
  generalize a % 8 = r at *
  have C := Lib.hid c
  clear c
  rcases hc with rfl | rfl | rfl | rfl | rfl | rfl | rfl | rfl
  all_goals
    go_enter Tryd.func75, Tryd.ntmps75
    go_wp2_with (go_at_call 93; refine (C.out _).mono ?_; rintro x w' ⟨rfl, rfl⟩)
    go_ret
    exact ⟨rfl, rfl⟩

/-- a step of repeated squaring -/
theorem pow_step {m out x : Int} {n : Nat} {A : Int} (h : Cong m (out * x ^ n) A) :
    Cong m ((if n % 2 = 1 then out * x % m else out) * (x * x % m) ^ (n / 2)) A := by
  refine Cong.trans ?_ h
  have h1 : Cong m ((x * x % m) ^ (n / 2)) ((x * x) ^ (n / 2)) := (Cong.emod m _).pow _
  split
  · next hn =>
    have e : out * x ^ n = out * x * (x * x) ^ (n / 2) := by
      have : n = n / 2 + n / 2 + 1 := by omega
      conv => lhs; rw [this]
      rw [Int.pow_succ, Int.pow_add, Int.mul_pow]; grind
    rw [e]
    exact (Cong.emod m _).mul h1
  · next hn =>
    have e : out * x ^ n = out * (x * x) ^ (n / 2) := by
      have : n = n / 2 + n / 2 := by omega
      conv => lhs; rw [this]
      rw [Int.pow_add, Int.mul_pow]
    rw [e]
    exact (Cong.refl _ _).mul h1

set_option maxHeartbeats 800000 in
theorem rpower_any (a : Int) (N : Nat) (m : Int) (w : World) (hN : N ≤ 9223372036854775807) (hm : 0 < m) (hm2 : m ≤ 2147483647) :
    Calls Tryd.prog 76 #[.int .i64 a, .int .i64 N, .int .i64 m] w fun e w' => e = .returned (.int .i64 (a ^ N % m)) ∧ ∃ k, w' = w.drewN k := by
  have b1 := Int.emod_nonneg a (show m ≠ 0 by omega)
  have b2 := Int.emod_lt_of_pos a hm
  have o1 := Int.emod_nonneg 1 (show m ≠ 0 by omega)
  have o2 := Int.emod_lt_of_pos 1 hm
  have hst : Cong m (1 % m * (a % m) ^ N) (a ^ N) := by
    have := (Cong.emod m 1).mul ((Cong.emod m a).pow N)
    rwa [Int.one_mul] at this
  generalize hA : a ^ N = A at *
  have ht1 : (1 : Int).tmod m = 1 % m := Int.tmod_eq_emod_of_nonneg (by omega)
  have c := fun w => rmod_any a m w hm (by omega)
  generalize a % m = x0 at *
  have C := Lib.hid c
  have HST := Lib.hid hst
  clear c hst hA
  go_enter Tryd.func76, Tryd.ntmps76
  go_wp2
  go_quiet ((go_at_call 93; first | exact quiet_left (C.out _) | exact quiet_add_left (C.out _)))
  go_wp2
  go_loopw [1, 7, 8] (fun s t u wr => ∃ (n k : Nat) (out x : Int), s = .int .i64 n ∧ t = .int .i64 out ∧ u = .int .i64 x ∧ n ≤ 9223372036854775807 ∧ 0 ≤ out ∧ out < m ∧ 0 ≤ x ∧ x < m ∧ Hid (Cong m (out * x ^ n) A) ∧ wr = w.drewN k) (fun s _ _ _ => (intOf s).toNat)
  case atStart => exact ⟨N, nq, 1 % m, x0, rfl, rfl, rfl, hN, o1, o2, b1, b2, HST.out, rfl⟩
  case round =>
    obtain ⟨n, k, out, x, rfl, rfl, rfl, h1, h2, h3, h4, h5, h6, rfl⟩ := hrel
    by_cases hn : n = 0
    · obtain rfl := hn
      have e := h6.out
      rw [Int.pow_zero, Int.mul_one] at e
      have e2 := e.emod_eq
      rw [Int.emod_eq_of_lt h2 h3] at e2
      have E := Lib.hid e2
      clear e e2 h6
      go_wp2
      go_ret
      exact ⟨ret_int E.out, k, rfl⟩
    · have st := pow_step h6.out
      obtain ⟨p1, p2⟩ := mul_bd h2 (by omega) h4 (by omega)
      obtain ⟨q1, q2⟩ := mul_bd h4 (by omega) h4 (by omega)
      have r1 := Int.emod_nonneg (out * x) (show m ≠ 0 by omega)
      have r2 := Int.emod_lt_of_pos (out * x) hm
      have s1 := Int.emod_nonneg (x * x) (show m ≠ 0 by omega)
      have s2 := Int.emod_lt_of_pos (x * x) hm
      by_cases ho : n % 2 = 1
      · rw [if_pos ho] at st
        have ST := Lib.hid st
        have hb : ((n : Int) % 2 == 1) = true := by rw [beq_iff_eq]; omega
        clear st h6 ho
        go_wp2
        go_roundw
        case rel => exact ⟨n / 2, k, out * x % m, x * x % m, by simp, rfl, rfl, by omega, r1, r2, s1, s2, ST.out, rfl⟩
        case measure => simp [intOf]; omega
      · rw [if_neg ho] at st
        have ST := Lib.hid st
        have hb : ((n : Int) % 2 == 1) = false := by rw [beq_eq_false_iff_ne]; omega
        clear st h6 ho
        go_wp2
        go_roundw
        case rel => exact ⟨n / 2, k, out, x * x % m, by simp, rfl, rfl, by omega, h2, h3, s1, s2, ST.out, rfl⟩
        case measure => simp [intOf]; omega
end Go.Proofs.YtedfcemebdlgfaaDoor
