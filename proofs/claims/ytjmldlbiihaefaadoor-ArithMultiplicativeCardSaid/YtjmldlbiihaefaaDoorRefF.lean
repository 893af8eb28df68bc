/- Walks: Inverse, of the program and of the reference. -/
import Derived.Test.YtjmldlbiihaefaaDoorRefB
import Derived.Test.YtjmldlbiihaefaaDoorNumA
namespace Go.Proofs.YtjmldlbiihaefaaDoor
open Go.RowKit HP

theorem rinRange_yes (n : Int) (w : World) (h1 : 1 ≤ n) (h2 : n ≤ 2147483647) :
    Calls Tryd.prog 37 #[.int .i64 n] w fun x w' => x = .returned (.bool true) ∧ w = w' := by
  have h3 : decide (n ≤ 2147483647) = true := by simpa using h2
  go_enter Tryd.func37, Tryd.ntmps37
  go_wp2
  go_ret
  exact ⟨rfl, rfl⟩
theorem rinRange_no (n : Int) (w : World) (h : n < 1 ∨ 2147483647 < n) :
    Calls Tryd.prog 37 #[.int .i64 n] w fun x w' => x = .returned (.bool false) ∧ w = w' := by
  rcases h with h | h
  · have h3 : ¬ 1 ≤ n := by omega
    have h4 : decide (1 ≤ n) = false := by simpa using h3
    go_enter Tryd.func37, Tryd.ntmps37
    go_wp2
    go_ret
    exact ⟨rfl, rfl⟩
  · have h3 : ¬ n ≤ 2147483647 := by omega
    have h4 : decide (n ≤ 2147483647) = false := by simpa using h3
    have h5 : 1 ≤ n := by omega
    go_enter Tryd.func37, Tryd.ntmps37
    go_wp2
    go_ret
    exact ⟨rfl, rfl⟩

theorem ret2 {k1 k2 : IntKind} {a b a' b' : Int} (h1 : a = a') (h2 : b = b') :
    Ending.returned (.tuple #[.int k1 a, .int k2 b]) = .returned (.tuple #[.int k1 a', .int k2 b']) := by rw [h1, h2]

set_option maxHeartbeats 1000000 in
theorem rinverse_any (a m : Int) (w : World) :
    Calls Tryd.prog 33 #[.int .i64 a, .int .i64 m] w fun x w' => x = .returned (.tuple #[.int .i64 (invOut a m).1, .int .i64 (invOut a m).2]) ∧ w = w' := by
  rcases inv_cases a m with ⟨hm, e⟩ | ⟨⟨hm1, hm2⟩, hc⟩
  · rw [e]
    clear e
    go_enter Tryd.func33, Tryd.ntmps33
    go_wp2_with (go_at_call 37; refine (rinRange_no m _ hm).mono ?_; rintro x w' ⟨rfl, rfl⟩)
    go_ret2
    exact ⟨rfl, rfl⟩
  · have hst := xi_start (a := a % m) (b := m) (by omega)
    have hinv := fun s h => inv_of_cofactor (a := a) (m := m) (s := s) (by omega) h
    have hg := gcd_emod a m
    have ha0 := Int.emod_nonneg a (show m ≠ 0 by omega)
    have ha1 := Int.emod_lt_of_pos a (show 0 < m by omega)
    have cm := fun w => rmod_any a m w (by omega) (by omega)
    generalize hA : a % m = A at *
    have CM := Lib.hid cm
    have HST := Lib.hid hst
    have HINV := Lib.hid hinv
    have HG := Lib.hid hg
    have HC := Lib.hid hc
    clear hst hinv hg cm hA hc
    go_enter Tryd.func33, Tryd.ntmps33
    go_wp2_with (first
      | (go_at_call 37; refine (rinRange_yes m _ hm1 hm2).mono ?_; rintro x w' ⟨rfl, rfl⟩)
      | (go_at_call 22; refine (CM.out _).mono ?_; rintro x w' ⟨rfl, rfl⟩))
    go_loop [6, 7, 8, 9] (fun s6 s7 s8 s9 => ∃ (g u next rest : Int), s6 = .int .i64 g ∧ s8 = .int .i64 u ∧ s9 = .int .i64 next ∧ s7 = .int .i64 rest ∧ 0 ≤ g ∧ g ≤ 2147483647 ∧ 0 ≤ rest ∧ rest ≤ 2147483647 ∧ u.natAbs ≤ 2147483647 ∧ next.natAbs ≤ 2147483647 ∧ Hid (XI A m g rest u next)) (fun _ s7 _ _ => (intOf s7).toNat)
    case atStart => exact ⟨A, 1, 0, m, rfl, rfl, rfl, rfl, by omega, by omega, by omega, by omega, by omega, by omega, HST.out⟩
    case round =>
      obtain ⟨g, u, next, rest, rfl, rfl, rfl, rfl, k0, k1, k2, k3, k4, k5, hI⟩ := hrel
      by_cases hr : rest = 0
      · obtain rfl := hr
        obtain ⟨e1, e2, e3, e4⟩ := xi_end (by omega) hI.out
        rw [HG.out] at e1
        clear hI
        by_cases hg1 : g = 1
        · obtain rfl := hg1
          have hcc : invOut a m = (invM a m, 0) := by
            rcases HC.out with ⟨x, _⟩ | ⟨_, x⟩
            · exact absurd (by omega) x
            · exact x
          rw [← HINV.out u e2] at hcc
          have HCC := Lib.hid hcc
          clear hcc e1 e2
          go_wp2_with (go_at_call 22; refine (rmod_any u m _ (by omega) (by omega)).mono ?_; rintro x w' ⟨rfl, rfl⟩)
          go_ret2
          exact ⟨by rw [HCC.out]; rfl, rfl⟩
        · have hcc : invOut a m = (0, 9) := by
            rcases HC.out with ⟨_, x⟩ | ⟨x, _⟩
            · exact x
            · exact absurd (show g = 1 by omega) hg1
          have hgb : (g != 1) = true := by simpa using hg1
          have HCC := Lib.hid hcc
          clear hcc e1 e2
          go_wp2
          go_ret2
          exact ⟨by rw [HCC.out]; rfl, rfl⟩
      · obtain ⟨n1, n2, n3, n4, n5, n6, n7⟩ := xi_step hI.out hr
        have ht : g.tdiv rest = g / rest := Int.tdiv_eq_ediv_of_nonneg k0
        rw [ht] at n1 n2 n3 n4 n5 n6
        have hem := Int.emod_nonneg g hr
        have hmd := Int.mul_ediv_add_emod g rest
        rw [Int.mul_comm] at hmd
        have hnn : 0 ≤ g - g / rest * rest := by omega
        have NI := Lib.hid n1
        clear n1 hI ht hem hmd
        go_wp2
        go_round
        case rel => exact ⟨rest, next, u - g / rest * next, g - g / rest * rest, rfl, rfl, rfl, rfl, k2, k3, hnn, by omega, k5, by omega, NI.out⟩
        case measure => simp [intOf]; omega

theorem inverse_any (a m : Int) (w : World) :
    Calls Tryd.prog 32 #[.int .i64 a, .int .i64 m] w fun x w' => x = .returned (.tuple #[.int .i64 (invOut a m).1, .int .i64 (invOut a m).2]) ∧ ∃ n, w' = w.drewN n := by
  rcases inv_cases a m with ⟨hm, e⟩ | ⟨⟨hm1, hm2⟩, hc⟩
  · rw [e]
    clear e
    go_enter Tryd.func32, Tryd.ntmps32
    go_wp2_with (go_at_call 61; refine (inRange_no m _ hm).mono ?_; rintro x w' ⟨rfl, rfl⟩)
    go_ret2
    exact ⟨rfl, 0, rfl⟩
  · have hg := gcd_emod a m
    have ha0 := Int.emod_nonneg a (show m ≠ 0 by omega)
    have ha1 := Int.emod_lt_of_pos a (show 0 < m by omega)
    have cx := fun w => xgcd_any (a % m) m w (by omega) (by omega) (by omega) hm2 (by omega)
    have CX := Lib.hid cx
    clear cx
    rcases hc with ⟨hg1, e⟩ | ⟨hg1, e⟩
    · rw [e]
      have hgb : (((Int.gcd (a % m) m : Nat) : Int) != 1) = true := by rw [bne_iff_ne, hg]; omega
      clear e hg hg1
      go_enter Tryd.func32, Tryd.ntmps32
      go_wp2_with (first
        | (go_at_call 61; refine (inRange_yes m _ hm1 hm2).mono ?_; rintro x w' ⟨rfl, rfl⟩)
        | (go_at_call 57; refine (residue_any a m _ (by omega) (by omega)).mono ?_; rintro x w' ⟨rfl, rfl⟩)
        | (go_at_call 23; refine (CX.out _).mono ?_; rintro x w' ⟨u, hu, rfl, n, rfl⟩; have HU := Lib.hid hu; clear hu))
      go_ret2
      exact ⟨rfl, _, rfl⟩
    · rw [e]
      have hgb : (((Int.gcd (a % m) m : Nat) : Int) != 1) = false := by rw [bne_eq_false_iff_eq, hg]; omega
      have hg2 : Int.gcd (a % m) m = 1 := by rw [hg]; exact hg1
      have HG2 := Lib.hid hg2
      clear e hg hg1 hg2
      go_enter Tryd.func32, Tryd.ntmps32
      go_wp2_with (first
        | (go_at_call 61; refine (inRange_yes m _ hm1 hm2).mono ?_; rintro x w' ⟨rfl, rfl⟩)
        | (go_at_call 57; refine (residue_any a m _ (by omega) (by omega)).mono ?_; rintro x w' ⟨rfl, rfl⟩)
        | (go_at_call 23; refine (CX.out _).mono ?_; rintro x w' ⟨u, hu, rfl, n, rfl⟩; have HU := Lib.hid hu; clear hu))
      go_ret2
      refine ⟨ret2 ?_ rfl, _, rfl⟩
      obtain ⟨u1, u2, u3⟩ := HU.out
      rw [HG2.out] at u2 u3
      have e := inv_of_cofactor (a := a) (m := m) (s := u) (by omega) u3
      have hmm : (m.natAbs : Int) / ((1 : Nat) : Int) = m := by simp; omega
      rw [hmm] at u2
      rw [← e, Int.emod_eq_of_lt u1 u2]
end Go.Proofs.YtjmldlbiihaefaaDoor
