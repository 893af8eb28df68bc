/- The walk of the reference's Xgcd; the law ArithGcds. -/
import Derived.Test.YtjmldlbiihaefaaDoorRefG
namespace Go.Proofs.YtjmldlbiihaefaaDoor
open Go.RowKit HP

/-- the inverse is a cofactor -/
theorem xu_of_inv {a b : Int} {G : Nat} (hG : Int.gcd a b = G) (hb : b ≠ 0) {u : Int} (h0 : 0 ≤ u) (h1 : u < (b.natAbs : Int) / G) (h : (b.natAbs : Int) / G ∣ a / (G : Int) * u - 1) : XU a b u := by
  have hg : 0 < Int.gcd a b := Int.gcd_pos_of_ne_zero_right a hb
  have hga : ((Int.gcd a b : Nat) : Int) ∣ a := Int.gcd_dvd_left ..
  have hgb : ((Int.gcd a b : Nat) : Int) ∣ (b.natAbs : Int) := by
    have := Nat.gcd_dvd_right a.natAbs b.natAbs
    exact Int.natCast_dvd_natCast.2 this
  refine ⟨h0, by rw [hG]; exact h1, ?_⟩
  rw [hG] at hg hga hgb ⊢
  obtain ⟨s, hs⟩ := hga
  obtain ⟨t, ht⟩ := hgb
  rw [ht, hs, Int.mul_ediv_cancel_left _ (by omega), Int.mul_ediv_cancel_left _ (by omega)] at h
  obtain ⟨k, hk⟩ := h
  have hd : b ∣ (b.natAbs : Int) := by
    rcases Int.natAbs_eq b with h | h
    · rw [← h]; exact Int.dvd_refl _
    · exact ⟨-1, by omega⟩
  obtain ⟨c, hc⟩ := hd
  refine ⟨c * -k, ?_⟩
  have e : b * (c * -k) = b * c * -k := by grind
  rw [hs, e, ← hc, ht]
  grind

theorem rxgcd_no (a b : Int) (w : World) (h : (a < -2147483647 ∨ 2147483647 < a) ∨ (b < -2147483647 ∨ 2147483647 < b)) :
    Calls Tryd.prog 24 #[.int .i64 a, .int .i64 b] w fun x w' => x = .returned (.tuple #[.int .i64 0, .int .i64 0, .int .i64 0, .int .i64 2]) ∧ ∃ m, w' = w.drewN m := by
  by_cases h2 : 2147483647 < a
  · have d2 : decide (2147483647 < a) = true := by simpa using h2
    clear h
    go_enter Tryd.func24, Tryd.ntmps24
    go_wp2
    refine bodyPost_ret (results_tmp4 rfl _ _ _) rfl ?_
    exact ⟨rfl, 0, rfl⟩
  · have d2 : decide (2147483647 < a) = false := by simpa using h2
    by_cases h1 : a < -2147483647
    · have d1 : decide (a < -2147483647) = true := by simpa using h1
      clear h
      go_enter Tryd.func24, Tryd.ntmps24
      go_wp2
      refine bodyPost_ret (results_tmp4 rfl _ _ _) rfl ?_
      exact ⟨rfl, 0, rfl⟩
    · have d1 : decide (a < -2147483647) = false := by simpa using h1
      by_cases h3 : 2147483647 < b
      · have d3 : decide (2147483647 < b) = true := by simpa using h3
        clear h
        go_enter Tryd.func24, Tryd.ntmps24
        go_wp2
        refine bodyPost_ret (results_tmp4 rfl _ _ _) rfl ?_
        exact ⟨rfl, 0, rfl⟩
      · have d3 : decide (2147483647 < b) = false := by simpa using h3
        have d4 : decide (b < -2147483647) = true := by simp; omega
        clear h
        go_enter Tryd.func24, Tryd.ntmps24
        go_wp2
        refine bodyPost_ret (results_tmp4 rfl _ _ _) rfl ?_
        exact ⟨rfl, 0, rfl⟩
theorem gcdW_zero {a : Int} (h1 : -2147483647 ≤ a) (h2 : a ≤ 2147483647) : gcdW a 0 = a.natAbs := by
  unfold gcdW; rw [Int.gcd_zero_right, if_neg (by omega)]
theorem rxgcd_zero (a : Int) (w : World) (h1 : -2147483647 ≤ a) (h2 : a ≤ 2147483647) :
    Calls Tryd.prog 24 #[.int .i64 a, .int .i64 0] w fun x w' => x = .returned (.tuple #[.int .i64 a.natAbs, .int .i64 (if a < 0 then -1 else if 0 < a then 1 else 0), .int .i64 0, .int .i64 0]) ∧ ∃ m, w' = w.drewN m := by
  have d1 : decide (a < -2147483647) = false := by simpa using h1
  have d2 : decide (2147483647 < a) = false := by simpa using h2
  have cg := fun w => rgcd_any a 0 w (by omega) (by omega) (by omega) (by omega)
  rw [gcdW_zero h1 h2] at cg
  have CG := Lib.hid cg
  clear cg
  rcases Int.lt_trichotomy a 0 with h | rfl | h
  · have e : (if a < 0 then (-1 : Int) else if 0 < a then 1 else 0) = -1 := by rw [if_pos h]
    rw [e]
    clear e
    go_enter Tryd.func24, Tryd.ntmps24
    go_wp2_with (go_at_call 18; refine (CG.out _).mono ?_; rintro x w' ⟨rfl, rfl⟩)
    refine bodyPost_ret (results_tmp4 rfl _ _ _) rfl ?_
    exact ⟨rfl, 0, rfl⟩
  · go_enter Tryd.func24, Tryd.ntmps24
    go_wp2_with (go_at_call 18; refine (CG.out _).mono ?_; rintro x w' ⟨rfl, rfl⟩)
    refine bodyPost_ret (results_tmp4 rfl _ _ _) rfl ?_
    exact ⟨rfl, 0, rfl⟩
  · have e : (if a < 0 then (-1 : Int) else if 0 < a then 1 else 0) = 1 := by rw [if_neg (by omega), if_pos h]
    rw [e]
    clear e
    go_enter Tryd.func24, Tryd.ntmps24
    go_wp2_with (go_at_call 18; refine (CG.out _).mono ?_; rintro x w' ⟨rfl, rfl⟩)
    refine bodyPost_ret (results_tmp4 rfl _ _ _) rfl ?_
    exact ⟨rfl, 0, rfl⟩

set_option maxHeartbeats 1000000 in
theorem rxgcd_any (a b : Int) (w : World) (ha1 : -2147483647 ≤ a) (ha2 : a ≤ 2147483647) (hb1 : -2147483647 ≤ b) (hb2 : b ≤ 2147483647) (hb : b ≠ 0) :
    Calls Tryd.prog 24 #[.int .i64 a, .int .i64 b] w (XGot a b w) := by
  have d1 : decide (a < -2147483647) = false := by simpa using ha1
  have d2 : decide (2147483647 < a) = false := by simpa using ha2
  have d3 : decide (b < -2147483647) = false := by simpa using hb1
  have d4 : decide (2147483647 < b) = false := by simpa using hb2
  have hg0 : 0 < Int.gcd a b := Int.gcd_pos_of_ne_zero_right a hb
  have hgb : Int.gcd a b ≤ b.natAbs := Nat.le_of_dvd (by omega) (Nat.gcd_dvd_right a.natAbs b.natAbs)
  have hga : ((Int.gcd a b : Nat) : Int) ∣ a := Int.gcd_dvd_left ..
  have hgd : ((Int.gcd a b : Nat) : Int) ∣ (b.natAbs : Int) := Int.natCast_dvd_natCast.2 (Nat.gcd_dvd_right a.natAbs b.natAbs)
  obtain ⟨hsp, hsm⟩ := div_pos_le (show (0 : Int) < (Int.gcd a b : Nat) by omega) (show (0 : Int) < (b.natAbs : Int) by omega) hgd
  have hcop : Int.gcd (a / (Int.gcd a b : Int)) ((b.natAbs : Int) / (Int.gcd a b : Int)) = 1 := by
    have e : Int.gcd a b = Int.gcd a (b.natAbs : Int) := by unfold Int.gcd; rw [Int.natAbs_natCast]
    rw [e]
    exact Int.gcd_ediv_gcd_ediv_gcd (by rw [← e]; exact hg0)
  have cg : ∀ w, Calls Tryd.prog 18 #[.int .i64 a, .int .i64 b] w fun e w' => e = .returned (.int .i64 (Int.gcd a b : Int)) ∧ w = w' := fun w => by
    have e : gcdW a b = (Int.gcd a b : Int) := by unfold gcdW; rw [if_neg (by omega)]
    rw [← e]
    exact rgcd_any a b w (by omega) (by omega) (by omega) (by omega)
  have hu := invM_range (a / (Int.gcd a b : Int)) hsp
  have hid := invM_mod hsp hcop
  have hX := xu_of_inv rfl hb hu.1 hu.2 hid
  have hio : invOut (a / (Int.gcd a b : Int)) ((b.natAbs : Int) / (Int.gcd a b : Int)) = (invM (a / (Int.gcd a b : Int)) ((b.natAbs : Int) / (Int.gcd a b : Int)), 0) := by
    unfold invOut
    rw [if_neg (by omega), if_neg (fun x => x hcop)]
  have hta : a.tdiv (Int.gcd a b : Int) = a / (Int.gcd a b : Int) := Int.tdiv_eq_ediv_of_dvd hga
  have hta1 : (a.tdiv (Int.gcd a b : Int)).natAbs ≤ a.natAbs := by rw [Int.natAbs_tdiv]; exact Nat.div_le_self _ _
  have ci := fun w => rinverse_any (a / (Int.gcd a b : Int)) ((b.natAbs : Int) / (Int.gcd a b : Int)) w
  rw [hio] at ci
  obtain ⟨hu0, hu1⟩ := hu
  generalize invM (a / (Int.gcd a b : Int)) ((b.natAbs : Int) / (Int.gcd a b : Int)) = U at *
  rw [← hta] at ci
  have hU31 : U ≤ 2147483647 := by omega
  have hpa : (U * a).natAbs ≤ 4611686014132420609 := by
    have h5 := mul31 (x := U.natAbs) (y := a.natAbs) (by omega) (by omega)
    rw [Int.natAbs_mul]; exact h5
  have hpa1 : -4611686014132420609 ≤ U * a := by omega
  have hpa2 : U * a ≤ 4611686014132420609 := by omega
  have ht : (((Int.gcd a b : Nat) : Int) - U * a).tdiv b = (((Int.gcd a b : Nat) : Int) - U * a) / b := Int.tdiv_eq_ediv_of_dvd hX.2.2
  have ht1 : ((((Int.gcd a b : Nat) : Int) - U * a).tdiv b).natAbs ≤ (((Int.gcd a b : Nat) : Int) - U * a).natAbs := by
    rw [Int.natAbs_tdiv]; exact Nat.div_le_self _ _
  have hta2 : -2147483647 ≤ a.tdiv (Int.gcd a b : Int) := by omega
  have hta3 : a.tdiv (Int.gcd a b : Int) ≤ 2147483647 := by omega
  have XUU := Lib.hid hX
  have CG := Lib.hid cg
  have CI := Lib.hid ci
  clear hX cg ci hid hio hcop hga hgd hta hpa hta1
  generalize hGe : Int.gcd a b = G at *
  have HGE := Lib.hid hGe
  clear hGe
  have ht2 : -9223372036854775808 ≤ ((G : Int) - U * a).tdiv b := by omega
  have ht3 : ((G : Int) - U * a).tdiv b ≤ 9223372036854775807 := by omega
  have ET := Lib.hid ht
  clear ht ht1
  by_cases hbn : b < 0
  · obtain ⟨M, rfl⟩ : ∃ M : Nat, b = -(M : Int) := ⟨b.natAbs, by omega⟩
    have hba : ((-(M : Int)).natAbs : Int) = (M : Int) := by omega
    rw [hba] at hsp hsm hu1 CI
    clear hba
    by_cases h1 : 1 < (M : Int) / (G : Int)
    · go_enter Tryd.func24, Tryd.ntmps24
      go_wp2_with (first
        | (go_at_call 18; refine (CG.out _).mono ?_; rintro x w' ⟨rfl, rfl⟩)
        | (go_at_call 33; with_reducible refine (CI.out _).mono ?_; rintro x w' ⟨rfl, rfl⟩))
      go_quiet (fail)
      go_wp2
      refine bodyPost_ret (results_tmp4 rfl _ _ _) rfl ?_
      exact ⟨U, XUU.out, ret4 (by rw [HGE.out]) rfl (by rw [← Int.tdiv_neg, IntWalk.wrap64_in _ ⟨ht2, ht3⟩, ET.out, HGE.out]) rfl, nq, rfl⟩
    · have hz : U = 0 := by omega
      obtain rfl := hz
      have h1' : (M : Int) / (G : Int) ≤ 1 := by omega
      simp only [Int.zero_mul, Int.sub_zero] at ht2 ht3 ET
      clear hpa1 hpa2
      go_enter Tryd.func24, Tryd.ntmps24
      go_wp2_with (go_at_call 18; refine (CG.out _).mono ?_; rintro x w' ⟨rfl, rfl⟩)
      go_quiet (fail)
      go_wp2
      refine bodyPost_ret (results_tmp4 rfl _ _ _) rfl ?_
      have e1 : (G : Int).tdiv M = (G : Int) / M := Int.tdiv_eq_ediv_of_nonneg (by omega)
      exact ⟨0, XUU.out, ret4 (by rw [HGE.out]) rfl (by rw [← e1, ← Int.tdiv_neg, IntWalk.wrap64_in _ ⟨ht2, ht3⟩, ET.out, HGE.out]; simp) rfl, nq, rfl⟩
  · obtain ⟨M, rfl⟩ : ∃ M : Nat, b = (M : Int) := ⟨b.natAbs, by omega⟩
    have hba : (((M : Int)).natAbs : Int) = (M : Int) := by omega
    rw [hba] at hsp hsm hu1 CI
    clear hba
    by_cases h1 : 1 < (M : Int) / (G : Int)
    · go_enter Tryd.func24, Tryd.ntmps24
      go_wp2_with (first
        | (go_at_call 18; refine (CG.out _).mono ?_; rintro x w' ⟨rfl, rfl⟩)
        | (go_at_call 33; with_reducible refine (CI.out _).mono ?_; rintro x w' ⟨rfl, rfl⟩))
      go_quiet (fail)
      go_wp2
      refine bodyPost_ret (results_tmp4 rfl _ _ _) rfl ?_
      exact ⟨U, XUU.out, ret4 (by rw [HGE.out]) rfl (by rw [ET.out, HGE.out]) rfl, nq, rfl⟩
    · have hz : U = 0 := by omega
      obtain rfl := hz
      have h1' : (M : Int) / (G : Int) ≤ 1 := by omega
      simp only [Int.zero_mul, Int.sub_zero] at ht2 ht3 ET
      clear hpa1 hpa2
      go_enter Tryd.func24, Tryd.ntmps24
      go_wp2_with (go_at_call 18; refine (CG.out _).mono ?_; rintro x w' ⟨rfl, rfl⟩)
      go_quiet (fail)
      go_wp2
      refine bodyPost_ret (results_tmp4 rfl _ _ _) rfl ?_
      have e1 : (G : Int).tdiv M = (G : Int) / M := Int.tdiv_eq_ediv_of_nonneg (by omega)
      exact ⟨0, XUU.out, ret4 (by rw [HGE.out]) rfl (by rw [← e1, IntWalk.wrap64_in _ ⟨ht2, ht3⟩, ET.out, HGE.out]; simp) rfl, nq, rfl⟩

set_option maxHeartbeats 1000000 in
theorem gcds_law (a b : Int) (w : World) (hT : TabW w) (hB : 0 < w.heap.size)
    (ha1 : -9223372036854775808 ≤ a) (ha2 : a ≤ 9223372036854775807) (hb1 : -9223372036854775808 ≤ b) (hb2 : b ≤ 9223372036854775807) :
    Calls Tryd.prog 7 #[.int .i64 a, .int .i64 b] w fun x w' => x = .returned (.bool true) ∧ Below w.heap.size w w' := by
  have caw := awake_any w hT hB
  have cg1 := fun w => gcd_any a b w ha1 ha2 hb1 hb2
  have cg2 := fun w => rgcd_any a b w ha1 ha2 hb1 hb2
  generalize gcdW a b = g at *
  have cx : (∃ G u v e : Int, (∀ w, Calls Tryd.prog 23 #[.int .i64 a, .int .i64 b] w fun x w' => x = .returned (.tuple #[.int .i64 G, .int .i64 u, .int .i64 v, .int .i64 e]) ∧ ∃ m, w' = w.drewN m) ∧
      (∀ w, Calls Tryd.prog 24 #[.int .i64 a, .int .i64 b] w fun x w' => x = .returned (.tuple #[.int .i64 G, .int .i64 u, .int .i64 v, .int .i64 e]) ∧ ∃ m, w' = w.drewN m)) ∨
      ((∀ w, Calls Tryd.prog 23 #[.int .i64 a, .int .i64 b] w (XGot a b w)) ∧ (∀ w, Calls Tryd.prog 24 #[.int .i64 a, .int .i64 b] w (XGot a b w)) ∧ b ≠ 0) := by
    by_cases h : (a < -2147483647 ∨ 2147483647 < a) ∨ (b < -2147483647 ∨ 2147483647 < b)
    · exact .inl ⟨0, 0, 0, 2, fun w => xgcd_no a b w h, fun w => rxgcd_no a b w h⟩
    · by_cases hb : b = 0
      · subst hb
        exact .inl ⟨_, _, _, _, fun w => xgcd_zero a w (by omega) (by omega), fun w => rxgcd_zero a w (by omega) (by omega)⟩
      · exact .inr ⟨fun w => xgcd_any a b w (by omega) (by omega) (by omega) (by omega) hb, fun w => rxgcd_any a b w (by omega) (by omega) (by omega) (by omega) hb, hb⟩
  have CAW := Lib.hid caw
  have CG1 := Lib.hid cg1
  have CG2 := Lib.hid cg2
  clear hT caw cg1 cg2
  rcases cx with ⟨G, u, v, e, c1, c2⟩ | ⟨c1, c2, hb⟩
  · have C1 := Lib.hid c1
    have C2 := Lib.hid c2
    clear c1 c2
    go_enter Tryd.func7, Tryd.ntmps7
    go_wp2_with fail
    refine CAW.out.mono ?_
    rintro x w1 ⟨rfl, hb1⟩
    have HB1 := Lib.hid hb1
    clear hb1
    go_wp2_with (first
      | (go_at_call 23; refine (C1.out _).mono ?_; rintro x w' ⟨rfl, n1, rfl⟩)
      | (go_at_call 24; refine (C2.out _).mono ?_; rintro x w' ⟨rfl, n2, rfl⟩)
      | (go_at_call 25; refine (CG1.out _).mono ?_; rintro x w' ⟨rfl, n3, rfl⟩)
      | (go_at_call 18; refine (CG2.out _).mono ?_; rintro x w' ⟨rfl, rfl⟩))
    go_ret
    exact ⟨rfl, below_drewN HB1.out _⟩
  · have C1 := Lib.hid c1
    have C2 := Lib.hid c2
    clear c1 c2
    go_enter Tryd.func7, Tryd.ntmps7
    go_wp2_with fail
    refine CAW.out.mono ?_
    rintro x w1 ⟨rfl, hb1⟩
    have HB1 := Lib.hid hb1
    clear hb1
    go_wp2_with fail
    refine (C1.out _).mono ?_
    rintro x w' ⟨u, hu, rfl, n1, rfl⟩
    have HU := Lib.hid hu
    clear hu
    go_wp2_with fail
    refine (C2.out _).mono ?_
    rintro x w' ⟨u', hu', rfl, n2, rfl⟩
    obtain rfl := xu_unique hb HU.out hu'
    clear hu'
    generalize ((Int.gcd a b : Int) - u * a) / b = v at *
    go_wp2_with (first
      | (go_at_call 25; refine (CG1.out _).mono ?_; rintro x w' ⟨rfl, n3, rfl⟩)
      | (go_at_call 18; refine (CG2.out _).mono ?_; rintro x w' ⟨rfl, rfl⟩))
    go_ret
    exact ⟨rfl, below_drewN HB1.out _⟩
end Go.Proofs.YtjmldlbiihaefaaDoor
