/- Walks of arith: the extended Euclidean algorithm, inverses. -/
import Derived.Test.YtdjfndfkjbjcpaaGreatDoorAriD
import Derived.Test.YtdjfndfkjbjcpaaGreatDoorNumA
namespace Go.Proofs.YtdjfndfkjbjcpaaGreatDoor
open Go.RowKit HP

theorem results_tmp4 {fn : Func} {t u v x : Tmp} (h : fn.results = #[.tmp t, .tmp u, .tmp v, .tmp x]) (tmps : Array Value) (P : Program) (w : World) :
    (results fn tmps).run P w = .ok (.tuple #[tmps.getD t undef, tmps.getD u undef, tmps.getD v undef, tmps.getD x undef]) w := by simp [results, h]

theorem ret4 {k1 k2 k3 k4 : IntKind} {a b c d a' b' c' d' : Int} (h1 : a = a') (h2 : b = b') (h3 : c = c') (h4 : d = d') :
    Ending.returned (.tuple #[.int k1 a, .int k2 b, .int k3 c, .int k4 d]) = .returned (.tuple #[.int k1 a', .int k2 b', .int k3 c', .int k4 d']) := by rw [h1, h2, h3, h4]

theorem mul31 {x y : Nat} (hx : x ≤ 2147483647) (hy : y ≤ 2147483647) : x * y ≤ 4611686014132420609 := by
  have := Nat.mul_le_mul_right y hx
  omega
def XGot (a b : Int) (w : World) (x : Ending) (w' : World) : Prop :=
  ∃ u : Int, XU a b u ∧ x = .returned (.tuple #[.int .i64 (Int.gcd a b), .int .i64 u, .int .i64 ((Int.gcd a b - u * a) / b), .int .i64 0]) ∧ ∃ m, w' = w.drewN m

set_option maxHeartbeats 1000000 in
theorem xgcd_any (a b : Int) (w : World) (ha1 : -2147483647 ≤ a) (ha2 : a ≤ 2147483647) (hb1 : -2147483647 ≤ b) (hb2 : b ≤ 2147483647) (hb : b ≠ 0) :
    Calls Tryz.prog 90 #[.int .i64 a, .int .i64 b] w (XGot a b w) := by
  have d1 : decide (a < -2147483647) = false := by simpa using ha1
  have d2 : decide (2147483647 < a) = false := by simpa using ha2
  have d3 : decide (b < -2147483647) = false := by simpa using hb1
  have d4 : decide (2147483647 < b) = false := by simpa using hb2
  go_enter Tryz.func90, Tryz.ntmps90
  go_wp2
  go_loop [4, 5, 8, 9] (fun s4 s5 s8 s9 => ∃ (g u next rest : Int), s4 = .int .i64 g ∧ s5 = .int .i64 u ∧ s8 = .int .i64 next ∧ s9 = .int .i64 rest ∧ g.natAbs ≤ 2147483647 ∧ rest.natAbs ≤ 2147483647 ∧ u.natAbs ≤ 2147483647 ∧ next.natAbs ≤ 2147483647 ∧ Hid (XI a b g rest u next)) (fun _ _ _ s9 => (intOf s9).natAbs)
  case atStart => exact ⟨a, 1, 0, b, rfl, rfl, rfl, rfl, by omega, by omega, by omega, by omega, xi_start hb⟩
  case round =>
    obtain ⟨g, u, next, rest, rfl, rfl, rfl, rfl, k1, k2, k3, k4, hI⟩ := hrel
    by_cases hr : rest = 0
    · obtain rfl := hr
      obtain ⟨e1, e2, e3, e4⟩ := xi_end hb hI.out
      clear hI
      have hdv : b ∣ Int.gcd a b - (if g < 0 then -u else u) * a := by
        split
        · have : (Int.gcd a b : Int) - -u * a = -(g - u * a) := by
            have : (Int.gcd a b : Int) = -g := by omega
            rw [this]; grind
          rw [this]; exact Int.dvd_neg.2 e2
        · have : (Int.gcd a b : Int) = g := by omega
          rw [this]; exact e2
      have hX := xu_mod hb hdv
      have hgb : Int.gcd a b ≤ b.natAbs := Nat.le_of_dvd (by omega) (Nat.gcd_dvd_right a.natAbs b.natAbs)
      have hm0 : 0 < b.natAbs / Int.gcd a b := Nat.div_pos hgb e4
      have hm3 : b.natAbs / Int.gcd a b ≤ b.natAbs := Nat.div_le_self _ _
      have hcm : (((b.natAbs / Int.gcd a b : Nat)) : Int) = (b.natAbs : Int) / (Int.gcd a b : Nat) := by simp
      rw [hcm] at hX
      have hU1 := hX.1
      have hU2 := hX.2.1
      have hU3 := hX.2.2
      have hm1 : 0 < (b.natAbs : Int) / (Int.gcd a b : Nat) := by rw [← hcm]; omega
      have hm2 : (b.natAbs : Int) / (Int.gcd a b : Nat) ≤ 9223372036854775807 := by rw [← hcm]; omega
      have hm4 : (b.natAbs : Int) / (Int.gcd a b : Nat) ≤ 2147483647 := by rw [← hcm]; omega
      have XUU := Lib.hid hX
      clear hX e2 hdv hcm
      generalize hUU : (if g < 0 then -u else u) % ((b.natAbs : Int) / (Int.gcd a b : Nat)) = U at *
      have hpa : (U * a).natAbs ≤ 4611686014132420609 := by
        have hu31 : U ≤ 2147483647 := Int.le_trans (Int.le_of_lt hU2) hm4
        have h5 := mul31 (x := U.natAbs) (y := a.natAbs) (by omega) (by omega)
        rw [Int.natAbs_mul]; exact h5
      have hpa1 : -4611686014132420609 ≤ U * a := by omega
      have hpa2 : U * a ≤ 4611686014132420609 := by omega
      have ht : (((Int.gcd a b : Nat) : Int) - U * a).tdiv b = (((Int.gcd a b : Nat) : Int) - U * a) / b := Int.tdiv_eq_ediv_of_dvd hU3
      have ht1 : ((((Int.gcd a b : Nat) : Int) - U * a).tdiv b).natAbs ≤ (((Int.gcd a b : Nat) : Int) - U * a).natAbs := by
        rw [Int.natAbs_tdiv]; exact Nat.div_le_self _ _
      have hG : Int.gcd a b ≤ 2147483647 := by omega
      generalize hGe : Int.gcd a b = G at *
      have HGE := Lib.hid hGe
      clear hGe
      have ht2 : -9223372036854775808 ≤ ((G : Int) - U * a).tdiv b := by omega
      have ht3 : ((G : Int) - U * a).tdiv b ≤ 9223372036854775807 := by omega
      have ET := Lib.hid ht
      clear ht ht1 hpa hU3 hm3 hm0
      by_cases hg : g < 0
      · obtain rfl : g = -(G : Int) := by omega
        rw [if_pos hg] at hUU
        by_cases hbn : b < 0
        · obtain ⟨M, rfl⟩ : ∃ M : Nat, b = -(M : Int) := ⟨b.natAbs, by omega⟩
          have hba : ((-(M : Int)).natAbs : Int) = (M : Int) := by omega
          rw [hba] at hUU hm1 hm2 hm4
          have HU := Lib.hid hUU
          clear hUU hba
          go_wp2_with (go_at_call 75; refine (residue_any (-u) ((M : Int) / (G : Nat)) w hm1 hm2).mono ?_; rintro x w' ⟨rfl, rfl⟩; rw [HU.out])
          go_quiet (fail)
          go_wp2
          refine bodyPost_ret (results_tmp4 rfl _ _ _) rfl ?_
          exact ⟨U, XUU.out, ret4 (by rw [HGE.out]) rfl (by rw [← Int.tdiv_neg, IntWalk.wrap64_in _ ⟨ht2, ht3⟩, ET.out, HGE.out]) rfl, nq, rfl⟩
        · have hba : (b.natAbs : Int) = b := by omega
          rw [hba] at hUU hm1 hm2 hm4
          have HU := Lib.hid hUU
          clear hUU hba
          go_wp2_with (go_at_call 75; refine (residue_any (-u) (b / (G : Nat)) w hm1 hm2).mono ?_; rintro x w' ⟨rfl, rfl⟩; rw [HU.out])
          go_quiet (fail)
          go_wp2
          refine bodyPost_ret (results_tmp4 rfl _ _ _) rfl ?_
          exact ⟨U, XUU.out, ret4 (by rw [HGE.out]) rfl (by rw [ET.out, HGE.out]) rfl, nq, rfl⟩
      · obtain rfl : g = (G : Int) := by omega
        rw [if_neg hg] at hUU
        by_cases hbn : b < 0
        · obtain ⟨M, rfl⟩ : ∃ M : Nat, b = -(M : Int) := ⟨b.natAbs, by omega⟩
          have hba : ((-(M : Int)).natAbs : Int) = (M : Int) := by omega
          rw [hba] at hUU hm1 hm2 hm4
          have HU := Lib.hid hUU
          clear hUU hba
          go_wp2_with (go_at_call 75; refine (residue_any u ((M : Int) / (G : Nat)) w hm1 hm2).mono ?_; rintro x w' ⟨rfl, rfl⟩; rw [HU.out])
          go_quiet (fail)
          go_wp2
          refine bodyPost_ret (results_tmp4 rfl _ _ _) rfl ?_
          exact ⟨U, XUU.out, ret4 (by rw [HGE.out]) rfl (by rw [← Int.tdiv_neg, IntWalk.wrap64_in _ ⟨ht2, ht3⟩, ET.out, HGE.out]) rfl, nq, rfl⟩
        · have hba : (b.natAbs : Int) = b := by omega
          rw [hba] at hUU hm1 hm2 hm4
          have HU := Lib.hid hUU
          clear hUU hba
          go_wp2_with (go_at_call 75; refine (residue_any u (b / (G : Nat)) w hm1 hm2).mono ?_; rintro x w' ⟨rfl, rfl⟩; rw [HU.out])
          go_quiet (fail)
          go_wp2
          refine bodyPost_ret (results_tmp4 rfl _ _ _) rfl ?_
          exact ⟨U, XUU.out, ret4 (by rw [HGE.out]) rfl (by rw [ET.out, HGE.out]) rfl, nq, rfl⟩
    · obtain ⟨n1, n2, n3, n4, n5, n6, n7⟩ := xi_step hI.out hr
      have NI := Lib.hid n1
      clear n1 hI
      go_wp2
      go_round
      case rel => exact ⟨rest, next, u - g.tdiv rest * next, g - g.tdiv rest * rest, rfl, rfl, rfl, rfl, k2, by omega, k4, by omega, NI.out⟩
      case measure => simpa [intOf] using n2
end Go.Proofs.YtdjfndfkjbjcpaaGreatDoor
