/- The walk of arith.factors, for whatever closure; powers. -/
import Derived.Test.YtdjfndfkjbjcpaaGreatDoorAriB
import Derived.Shelf.Abstract
namespace Go.Proofs.YtdjfndfkjbjcpaaGreatDoor
open Go.RowKit HP

theorem rough_le {p n : Nat} (hn : 2 ≤ n) (h : Rough p n) : p ≤ n := Nat.le_of_not_lt fun h1 => h n hn h1 (Nat.dvd_refl n)

set_option maxHeartbeats 1000000 in
theorem factors_any (g : Nat) (caps : Array Value) (he : ∀ args w, (callFunc g args).run Tryz.prog w = .ok (.enter g args) w) (N : Nat) (w : World) (hN0 : 0 < N) (hN : N ≤ 2147483648)
    (I : List (Nat × Nat) → World → Prop) (h0 : I [] w)
    (hs : ∀ l p e r wr, facs N = l ++ (p, e) :: r → I l wr → Calls Tryz.prog g (#[.int .i64 p, .int .i64 e] ++ caps) wr fun x w' => x = .returned (.tuple #[]) ∧ I (l ++ [(p, e)]) w') :
    Calls Tryz.prog 76 #[.int .i64 N, .func (.func g) #[] caps] w fun e w' => e = .returned (.tuple #[]) ∧ I (facs N) w' := by
  have HS := Lib.hid hs
  clear hs
  go_enter Tryz.func76, Tryz.ntmps76
  go_wp2
  go_loopw [0, 4] (fun x y wr => ∃ (n p : Nat) (l : List (Nat × Nat)), x = .int .i64 n ∧ y = .int .i64 p ∧ 0 < n ∧ n ≤ N ∧ 2 ≤ p ∧ p ≤ N + 2 ∧ Hid (Rough p n) ∧ Hid (facs N = l ++ facs n) ∧ I l wr) (fun _ y _ => N + 3 - (intOf y).toNat)
  case atStart => exact ⟨N, 2, [], rfl, rfl, hN0, Nat.le_refl _, by omega, by omega, rough_two N, rfl, h0⟩
  case round =>
    obtain ⟨n, p, l, rfl, rfl, h1, h2, h3, h4, h5, h6, h7⟩ := hrel
    by_cases hn : n = 1
    · obtain rfl := hn
      go_wp2
      go_end0
      refine ⟨rfl, ?_⟩
      have e := h6.out
      rw [facs_small (n := 1) (by omega), List.append_nil] at e
      rw [e]; exact h7
    · have hpn := rough_le (by omega) h5.out
      by_cases hpp : n < p * p
      · have hpp' : (n : Int) < (p : Int) * p := by exact_mod_cast hpp
        obtain ⟨hpr, hrn⟩ := rough_prime (by omega) h5.out hpp
        have hsq : (p : Int) * p ≤ 2147483650 * 2147483650 := Int.mul_le_mul (by omega) (by omega) (by omega) (by omega)
        go_wp2
        go_loop [0, 5] (fun x k => ∃ (m j : Nat), x = .int .i64 m ∧ k = .int .i64 j ∧ 0 < m ∧ m ≤ n ∧ j + m ≤ n + 1 ∧ Hid (mlt n n = j + mlt n m) ∧ Hid (strip n n = strip n m)) (fun x _ => (intOf x).toNat)
        case atStart => exact ⟨n, 0, rfl, rfl, h1, Nat.le_refl _, by omega, (Nat.zero_add _).symm, rfl⟩
        case round =>
          obtain ⟨m, j, rfl, rfl, k1, k2, k3, k4, k5⟩ := hrel
          by_cases hd : m % n = 0
          · have hd' : ((m : Int) % n == 0) = true := by rw [beq_iff_eq]; omega
            have hle : n ≤ m := Nat.le_of_dvd k1 (Nat.dvd_of_mod_eq_zero hd)
            have hdv : 0 < m / n := Nat.div_pos hle (by omega)
            have hlt : m / n < m := Nat.div_lt_self k1 (by omega)
            have hcast : (m : Int) / n = ((m / n : Nat) : Int) := by simp
            have k4' := k4.out
            have k5' := k5.out
            rw [mlt_yes (by omega) k1 hd] at k4'
            rw [strip_yes (by omega) k1 hd] at k5'
            have K4 := Lib.hid k4'
            have K5 := Lib.hid k5'
            clear k4 k5 k4' k5'
            generalize m / n = q at *
            go_wp2
            go_round
            case rel => exact ⟨q, j + 1, by rw [← hcast], by go_num, hdv, by omega, by omega, by rw [Hid, K4.out]; omega, K5.out⟩
            case measure => simp [intOf]; omega
          · have hd' : ((m : Int) % n == 0) = false := by rw [beq_eq_false_iff_ne]; omega
            have ej := k4.out
            have es := k5.out
            rw [mlt_no hd] at ej
            rw [strip_no hd] at es
            obtain rfl : m = strip n n := es.symm
            obtain rfl : j = mlt n n := by omega
            clear k4 k5 ej es
            have hmp := mlt_pos (p := n) (n := n) (by omega) h1 (Nat.dvd_refl n)
            obtain ⟨hfr, _⟩ := facs_round (by omega) h1 hrn (Nat.dvd_refl n)
            have hfr' := h6.out
            rw [hfr] at hfr'
            have c := HS.out l n (mlt n n) (facs (strip n n)) wr hfr' h7
            have hnx := rough_next (rough_dvd hrn (strip_dvd n n)) (strip_not (p := n) (n := n) (by omega) h1)
            have C := Lib.hid c
            have F := Lib.hid hfr'
            have NX := Lib.hid hnx
            clear c hfr hfr' hnx hd h7 h6
            generalize strip n n = q at *
            generalize mlt n n = e at *
            go_wp2_with (go_at_fn g; refine C.out.mono ?_; rintro x w' ⟨rfl, hI⟩)
            go_roundw
            case rel => exact ⟨q, n + 1, l ++ [(n, e)], rfl, by go_num, k1, by omega, by omega, by omega, NX.out, by rw [F.out, List.append_assoc]; rfl, hI⟩
            case measure => simp [intOf]; omega
      · have hpp' : (p : Int) * p ≤ (n : Int) := by exact_mod_cast Nat.le_of_not_lt hpp
        have hpos : 0 ≤ (p : Int) * p := Int.mul_nonneg (by omega) (by omega)
        have hrn := h5.out
        by_cases hpd : n % p = 0
        · have hdv0 := Nat.dvd_of_mod_eq_zero hpd
          clear hpd
          go_wp2
          go_loop [0, 5] (fun x k => ∃ (m j : Nat), x = .int .i64 m ∧ k = .int .i64 j ∧ 0 < m ∧ m ≤ n ∧ j + m ≤ n + 1 ∧ Hid (mlt p n = j + mlt p m) ∧ Hid (strip p n = strip p m)) (fun x _ => (intOf x).toNat)
          case atStart => exact ⟨n, 0, rfl, rfl, h1, Nat.le_refl _, by omega, (Nat.zero_add _).symm, rfl⟩
          case round =>
            obtain ⟨m, j, rfl, rfl, k1, k2, k3, k4, k5⟩ := hrel
            by_cases hd : m % p = 0
            · have hd' : ((m : Int) % p == 0) = true := by rw [beq_iff_eq]; omega
              have hle : p ≤ m := Nat.le_of_dvd k1 (Nat.dvd_of_mod_eq_zero hd)
              have hdv : 0 < m / p := Nat.div_pos hle (by omega)
              have hlt : m / p < m := Nat.div_lt_self k1 (by omega)
              have hcast : (m : Int) / p = ((m / p : Nat) : Int) := by simp
              have k4' := k4.out
              have k5' := k5.out
              rw [mlt_yes (by omega) k1 hd] at k4'
              rw [strip_yes (by omega) k1 hd] at k5'
              have K4 := Lib.hid k4'
              have K5 := Lib.hid k5'
              clear k4 k5 k4' k5'
              generalize m / p = q at *
              go_wp2
              go_round
              case rel => exact ⟨q, j + 1, by rw [← hcast], by go_num, hdv, by omega, by omega, by rw [Hid, K4.out]; omega, K5.out⟩
              case measure => simp [intOf]; omega
            · have hd' : ((m : Int) % p == 0) = false := by rw [beq_eq_false_iff_ne]; omega
              have ej := k4.out
              have es := k5.out
              rw [mlt_no hd] at ej
              rw [strip_no hd] at es
              obtain rfl : m = strip p n := es.symm
              obtain rfl : j = mlt p n := by omega
              clear k4 k5 ej es
              have hmp := mlt_pos (p := p) (n := n) (by omega) h1 hdv0
              obtain ⟨hfr, _⟩ := facs_round h3 h1 hrn hdv0
              have hfr' := h6.out
              rw [hfr] at hfr'
              have c := HS.out l p (mlt p n) (facs (strip p n)) wr hfr' h7
              have hnx := rough_next (rough_dvd hrn (strip_dvd p n)) (strip_not (p := p) (n := n) (by omega) h1)
              have C := Lib.hid c
              have F := Lib.hid hfr'
              have NX := Lib.hid hnx
              clear c hfr hfr' hnx hd h7 h6
              generalize strip p n = q at *
              generalize mlt p n = e at *
              go_wp2_with (go_at_fn g; refine C.out.mono ?_; rintro x w' ⟨rfl, hI⟩)
              go_roundw
              case rel => exact ⟨q, p + 1, l ++ [(p, e)], rfl, by go_num, k1, by omega, by omega, by omega, NX.out, by rw [F.out, List.append_assoc]; rfl, hI⟩
              case measure => simp [intOf]; omega
        · go_wp2
          go_loop [0, 5] (fun x k => ∃ (m j : Nat), x = .int .i64 m ∧ k = .int .i64 j ∧ 0 < m ∧ m ≤ n ∧ j + m ≤ n + 1 ∧ Hid (mlt p n = j + mlt p m) ∧ Hid (strip p n = strip p m)) (fun x _ => (intOf x).toNat)
          case atStart => exact ⟨n, 0, rfl, rfl, h1, Nat.le_refl _, by omega, (Nat.zero_add _).symm, rfl⟩
          case round =>
            obtain ⟨m, j, rfl, rfl, k1, k2, k3, k4, k5⟩ := hrel
            by_cases hd : m % p = 0
            · have hd' : ((m : Int) % p == 0) = true := by rw [beq_iff_eq]; omega
              have hle : p ≤ m := Nat.le_of_dvd k1 (Nat.dvd_of_mod_eq_zero hd)
              have hdv : 0 < m / p := Nat.div_pos hle (by omega)
              have hlt : m / p < m := Nat.div_lt_self k1 (by omega)
              have hcast : (m : Int) / p = ((m / p : Nat) : Int) := by simp
              have k4' := k4.out
              have k5' := k5.out
              rw [mlt_yes (by omega) k1 hd] at k4'
              rw [strip_yes (by omega) k1 hd] at k5'
              have K4 := Lib.hid k4'
              have K5 := Lib.hid k5'
              clear k4 k5 k4' k5'
              generalize m / p = q at *
              go_wp2
              go_round
              case rel => exact ⟨q, j + 1, by rw [← hcast], by go_num, hdv, by omega, by omega, by rw [Hid, K4.out]; omega, K5.out⟩
              case measure => simp [intOf]; omega
            · have hd' : ((m : Int) % p == 0) = false := by rw [beq_eq_false_iff_ne]; omega
              have ej := k4.out
              have es := k5.out
              rw [mlt_no hd] at ej
              rw [strip_no hd] at es
              obtain rfl : m = strip p n := es.symm
              obtain rfl : j = mlt p n := by omega
              clear k4 k5 ej es
              have e0 : mlt p n = 0 := mlt_no hpd
              have es0 : strip p n = n := strip_no hpd
              rw [es0, e0]
              rw [es0] at hd'
              have NX := Lib.hid (rough_next hrn (fun hx => hpd (Nat.mod_eq_zero_of_dvd hx)))
              clear e0 es0
              go_wp2
              go_roundw
              case rel => exact ⟨n, p + 1, l, rfl, by go_num, h1, h2, by omega, by omega, NX.out, h6, h7⟩
              case measure => simp [intOf]; omega

end Go.Proofs.YtdjfndfkjbjcpaaGreatDoor
