/- The law ArithFunctions walked. -/
import Derived.Test.YtjmldlbiihaefaaDoorSigB
import Derived.Test.YtjmldlbiihaefaaDoorRefL
import Derived.Test.YtjmldlbiihaefaaDoorRefJ
import Derived.Test.YtjmldlbiihaefaaDoorAriG
import Derived.Test.YtjmldlbiihaefaaDoorAriT
import Derived.Test.YtjmldlbiihaefaaDoorRbgF
namespace Go.Proofs.YtjmldlbiihaefaaDoor
open Go.RowKit HP

theorem k_cases (k : Int) : decide (k < 0) = true ∨ (decide (k < 0) = false ∧ decide (64 < k) = true) ∨ (decide (k < 0) = false ∧ decide (64 < k) = false) := by
  by_cases h1 : k < 0
  · exact .inl (decide_eq_true h1)
  · by_cases h2 : 64 < k
    · exact .inr (.inl ⟨decide_eq_false h1, decide_eq_true h2⟩)
    · exact .inr (.inr ⟨decide_eq_false h1, decide_eq_false h2⟩)
set_option maxHeartbeats 4000000 in
set_option maxRecDepth 100000 in
theorem funcs_bad (k n : Int) (w : World) (hT : TabW w) (hB : 0 < w.heap.size) (h : n < 1 ∨ 2147483647 < n) :
    Calls Tryd.prog 13 #[.int .i64 k, .int .i64 n] w fun x w' => x = .returned (.bool true) ∧ Below w.heap.size w w' := by
  have CAW := Lib.hid (awake_any w hT hB)
  have C1 := Lib.hid fun w => phi_no n w h
  have C2 := Lib.hid fun w => psi_no n w h
  have C3 := Lib.hid fun w => mob_no n w h
  have C4 := Lib.hid fun w => sigma_no k n w (by omega)
  have C5 := Lib.hid fun w => rinRange_no n w h
  clear hT h
  rcases k_cases k with t1 | ⟨t1, t2⟩ | ⟨t1, t2⟩
  all_goals
    go_enter Tryd.func13, Tryd.ntmps13
    go_wp2_with fail
    refine CAW.out.mono ?_
    rintro x w1 ⟨rfl, hb1⟩
    have HB1 := Lib.hid hb1
    clear hb1
    go_wp2_with fail
    refine (C1.out _).mono ?_
    rintro x w2 ⟨rfl, hb2⟩
    have HB2 := Lib.hid (HB1.out.trans (hb2.mono HB1.out.size))
    clear hb2
    go_wp2_with fail
    refine (C2.out _).mono ?_
    rintro x w3 ⟨rfl, hb3⟩
    have HB3 := Lib.hid (HB2.out.trans (hb3.mono HB2.out.size))
    clear hb3
    go_wp2_with fail
    refine (C3.out _).mono ?_
    rintro x w4 ⟨rfl, hb4⟩
    have HB4 := Lib.hid (HB3.out.trans (hb4.mono HB3.out.size))
    clear hb4
    go_wp2_with fail
    refine (C4.out _).mono ?_
    rintro x w5 ⟨rfl, hb5⟩
    have HB5 := Lib.hid (HB4.out.trans (hb5.mono HB4.out.size))
    clear hb5
    go_wp2_with (go_at_call 37; refine (C5.out _).mono ?_; rintro x w' ⟨rfl, rfl⟩)
    go_ret
    exact ⟨rfl, HB5.out.alloc HB5.out.size _⟩

theorem s2_next {W W' : World} {V : Nat} {p q : Value} (hV : V < W.heap.size) (h : W.cell? ⟨V, 0, none⟩ = some p ∧ W.cell? ⟨V, 1, none⟩ = some q) (hb : Below W.heap.size W W') : W'.cell? ⟨V, 0, none⟩ = some p ∧ W'.cell? ⟨V, 1, none⟩ = some q :=
  ⟨(hb.cell (p := ⟨V, 0, none⟩) hV).trans h.1, (hb.cell (p := ⟨V, 1, none⟩) hV).trans h.2⟩
set_option maxHeartbeats 4000000 in
set_option maxRecDepth 100000 in
theorem funcs_out (k : Int) (hk : k < 0 ∨ 64 < k) (N : Nat) (w : World) (hT : TabW w) (hB : 0 < w.heap.size) (hN0 : 1 ≤ N) (hN : N ≤ 2147483647) :
    Calls Tryd.prog 13 #[.int .i64 k, .int .i64 N] w fun x w' => x = .returned (.bool true) ∧ Below w.heap.size w w' := by
  have CAW := Lib.hid (awake_any w hT hB)
  have c1 := fun w => phi_any N w hN0 hN
  have c2 := fun w => psi_any N w hN0 hN
  have c3 := fun w => mob_any N w hN0 hN
  have C5 := Lib.hid fun w => rinRange_yes (N : Int) w (by omega) (by omega)
  have c6 := fun w => rphi_any N w hN0 hN
  have c7 := fun w => rpsi_any N w hN0 hN
  have c8 := fun w => rmob_any N w hN0 hN
  have C4 := Lib.hid fun w => sigma_no k N w (by omega)
  have hk' : decide (k < 0) = true ∨ (decide (k < 0) = false ∧ decide (64 < k) = true) := by
    rcases k_cases k with h | h | ⟨h1, h2⟩
    · exact .inl h
    · exact .inr h
    · have := of_decide_eq_false h1
      have := of_decide_eq_false h2
      omega
  generalize phi N = a at *
  generalize psi N = b at *
  generalize mob N = c at *
  have C1 := Lib.hid c1
  have C2 := Lib.hid c2
  have C3 := Lib.hid c3
  have C6 := Lib.hid c6
  have C7 := Lib.hid c7
  have C8 := Lib.hid c8
  have ta : (a == a) = true := beq_self_eq_true a
  have tb : (b == b) = true := beq_self_eq_true b
  have tc : (c == c) = true := beq_self_eq_true c
  clear hT c1 c2 c3 c6 c7 c8
  clear hk
  rcases hk' with t1 | ⟨t1, t2⟩
  all_goals
    go_enter Tryd.func13, Tryd.ntmps13
    go_wp2_with fail
    refine CAW.out.mono ?_
    rintro x w1 ⟨rfl, hb1⟩
    have HB1 := Lib.hid hb1
    clear hb1
    go_wp2_with fail
    refine (C1.out _).mono ?_
    rintro x w2 ⟨rfl, hb2⟩
    have HB2 := Lib.hid (HB1.out.trans (hb2.mono HB1.out.size))
    clear hb2
    go_wp2_with fail
    refine (C2.out _).mono ?_
    rintro x w3 ⟨rfl, hb3⟩
    have HB3 := Lib.hid (HB2.out.trans (hb3.mono HB2.out.size))
    clear hb3
    go_wp2_with fail
    refine (C3.out _).mono ?_
    rintro x w4 ⟨rfl, hb4⟩
    have HB4 := Lib.hid (HB3.out.trans (hb4.mono HB3.out.size))
    clear hb4
    go_wp2_with fail
    refine (C4.out _).mono ?_
    rintro x w5 ⟨rfl, hb5⟩
    have HB5 := Lib.hid (HB4.out.trans (hb5.mono HB4.out.size))
    clear hb5
    have HB6 := Lib.hid (HB5.out.alloc HB5.out.size (.cells #[.bool false, .slice none 0 0] 69))
    go_wp2_with (go_at_call 37; refine (C5.out _).mono ?_; rintro x w' ⟨rfl, rfl⟩)
    refine (C6.out _).mono ?_
    rintro x w7 ⟨rfl, hb7⟩
    have HB7 := Lib.hid (HB6.out.trans (hb7.mono HB6.out.size))
    clear hb7
    go_wp2_with fail
    refine (C7.out _).mono ?_
    rintro x w8 ⟨rfl, hb8⟩
    have HB8 := Lib.hid (HB7.out.trans (hb8.mono HB7.out.size))
    clear hb8
    go_wp2_with fail
    refine (C8.out _).mono ?_
    rintro x w9 ⟨rfl, hb9⟩
    have HB9 := Lib.hid (HB8.out.trans (hb9.mono HB8.out.size))
    clear hb9
    go_wp2_with fail
    go_ret
    exact ⟨rfl, HB9.out⟩
set_option maxHeartbeats 4000000 in
set_option maxRecDepth 100000 in
theorem funcs_in (k : Nat) (hk : k ≤ 64) (N : Nat) (w : World) (hT : TabW w) (hB : 0 < w.heap.size) (hN0 : 1 ≤ N) (hN : N ≤ 2147483647) :
    Calls Tryd.prog 13 #[.int .i64 k, .int .i64 N] w fun x w' => x = .returned (.bool true) ∧ Below w.heap.size w w' := by
  have CAW := Lib.hid (awake_any w hT hB)
  have c1 := fun w => phi_any N w hN0 hN
  have c2 := fun w => psi_any N w hN0 hN
  have c3 := fun w => mob_any N w hN0 hN
  have C5 := Lib.hid fun w => rinRange_yes (N : Int) w (by omega) (by omega)
  have c6 := fun w => rphi_any N w hN0 hN
  have c7 := fun w => rpsi_any N w hN0 hN
  have c8 := fun w => rmob_any N w hN0 hN
  have c4 := fun w => sigma_any k N w hk hN0 hN
  have c9 := fun w => rsigma_any k N w hk hN0 hN
  have hps := powSum_small hN0 hN hk
  have t1 : decide ((k : Int) < 0) = false := by simp
  have t2 : decide ((64 : Int) < (k : Int)) = false := by rw [decide_eq_false_iff_not]; omega
  have t2' : decide (64 < k) = false := by rw [decide_eq_false_iff_not]; omega
  generalize powSum k (dvs N) = S at *
  have C4 := Lib.hid c4
  have C9 := Lib.hid c9
  have hx : (S : Int).natAbs < W32 ^ 1000000 := by
    rw [Int.natAbs_natCast]
    exact w32_big hps
  have HX := Lib.hid hx
  clear c4 c9 hps hx
  generalize phi N = a at *
  generalize psi N = b at *
  generalize mob N = c at *
  have C1 := Lib.hid c1
  have C2 := Lib.hid c2
  have C3 := Lib.hid c3
  have C6 := Lib.hid c6
  have C7 := Lib.hid c7
  have C8 := Lib.hid c8
  have ta : (a == a) = true := beq_self_eq_true a
  have tb : (b == b) = true := beq_self_eq_true b
  have tc : (c == c) = true := beq_self_eq_true c
  clear hT c1 c2 c3 c6 c7 c8
  go_enter Tryd.func13, Tryd.ntmps13
  go_wp2_with fail
  refine CAW.out.mono ?_
  rintro x w1 ⟨rfl, hb1⟩
  have HB1 := Lib.hid hb1
  clear hb1
  go_wp2_with fail
  refine (C1.out _).mono ?_
  rintro x w2 ⟨rfl, hb2⟩
  have HB2 := Lib.hid (HB1.out.trans (hb2.mono HB1.out.size))
  clear hb2
  go_wp2_with fail
  refine (C2.out _).mono ?_
  rintro x w3 ⟨rfl, hb3⟩
  have HB3 := Lib.hid (HB2.out.trans (hb3.mono HB2.out.size))
  clear hb3
  go_wp2_with fail
  refine (C3.out _).mono ?_
  rintro x w4 ⟨rfl, hb4⟩
  have HB4 := Lib.hid (HB3.out.trans (hb4.mono HB3.out.size))
  clear hb4
  go_wp2_with fail
  refine (C4.out _).mono ?_
  rintro x w5 ⟨r, rfl, hr, hb5⟩
  have HB5 := Lib.hid (HB4.out.trans (hb5.mono HB4.out.size))
  have HN5 := Lib.hid hr
  clear hb5 hr
  have hsr := natAt_shape HN5.out
  rcases hsr with rfl | ⟨g, n, cap, rfl⟩
  · have hbel := HB5.out.alloc HB5.out.size (.cells #[.bool false, .slice none 0 0] 69)
    have hb1' := below_res w5 (.cells #[.bool false, .slice none 0 0] 69)
    have hS0 : (w5.alloc (.cells #[.bool false, .slice none 0 0] 69)).drew.cell? ⟨w5.heap.size, 0, none⟩ = some (.bool false) ∧ (w5.alloc (.cells #[.bool false, .slice none 0 0] 69)).drew.cell? ⟨w5.heap.size, 1, none⟩ = some (.slice none 0 0) := by
      constructor <;>
      · show (w5.alloc _).cell? _ = _
        rw [World.cell?_alloc_at _ _ _ _ rfl]; rfl
    have HB6 := Lib.hid (below_drewN hbel 1)
    have HN6 := Lib.hid (HN5.out.below (below_drewN hb1' 1) (Nat.le_refl _))
    have HSZ : Hid (w5.heap.size < (w5.alloc (.cells #[.bool false, .slice none 0 0] 69)).drew.heap.size) := by show _ < (w5.alloc _).heap.size; simp
    clear hbel hb1' HB5 HN5
    go_wp2_with (go_at_call 37; refine (C5.out _).mono ?_; rintro x w' ⟨rfl, rfl⟩)
    have hS0 := hS0
    generalize w5.alloc (.cells #[.bool false, .slice none 0 0] 69) = W6 at *
    go_region_held3 (fun W => W.cell? ⟨w5.heap.size, 0, none⟩ = some (.bool false) ∧ W.cell? ⟨w5.heap.size, 1, none⟩ = some (.slice none 0 0)) (first | assumption | go_keep)
      (first
        | (go_at_call 51; (with_reducible refine (C9.out _).mono ?_); rintro _ w7 ⟨r2, rfl, hr2, hb7⟩; have hs7 := s2_next HSZ.out hS0 hb7; have HB7 := Lib.hid (HB6.out.trans (hb7.mono HB6.out.size)); have HN7 := Lib.hid (HN6.out.below hb7 (Nat.le_refl _)); have HR7 := Lib.hid hr2; have HL7 := Lib.hid (Nat.lt_of_lt_of_le HSZ.out hb7.size); clear hr2 hb7)
        | (go_at_call 50; (with_reducible refine (same_any _ _ (S : Int) _ (intV_nat HN7.out) (intV_nat HR7.out) HX.out).mono ?_); rintro _ w8 ⟨rfl, hb8⟩; have hs8 := s2_next HL7.out hs7 hb8; have HB8 := Lib.hid (HB7.out.trans (hb8.mono HB7.out.size)); clear hb8))
    go_wp2_with (go_at_call 37; refine (C5.out _).mono ?_; rintro x w' ⟨rfl, rfl⟩)
    refine (C6.out _).mono ?_
    rintro x w9 ⟨rfl, hb9⟩
    have HB9 := Lib.hid (HB8.out.trans (hb9.mono HB8.out.size))
    clear hb9
    go_wp2_with fail
    refine (C7.out _).mono ?_
    rintro x w10 ⟨rfl, hb10⟩
    have HB10 := Lib.hid (HB9.out.trans (hb10.mono HB9.out.size))
    clear hb10
    go_wp2_with fail
    refine (C8.out _).mono ?_
    rintro x w11 ⟨rfl, hb11⟩
    have HB11 := Lib.hid (HB10.out.trans (hb11.mono HB10.out.size))
    clear hb11
    go_wp2_with fail
    go_ret
    exact ⟨rfl, HB11.out⟩
  · have hbel := HB5.out.alloc HB5.out.size (.cells #[.bool false, .slice (some ⟨g, 0, none⟩) n cap] 69)
    have hb1' := below_res w5 (.cells #[.bool false, .slice (some ⟨g, 0, none⟩) n cap] 69)
    have hS0 : (w5.alloc (.cells #[.bool false, .slice (some ⟨g, 0, none⟩) n cap] 69)).drew.cell? ⟨w5.heap.size, 0, none⟩ = some (.bool false) ∧ (w5.alloc (.cells #[.bool false, .slice (some ⟨g, 0, none⟩) n cap] 69)).drew.cell? ⟨w5.heap.size, 1, none⟩ = some (.slice (some ⟨g, 0, none⟩) n cap) := by
      constructor <;>
      · show (w5.alloc _).cell? _ = _
        rw [World.cell?_alloc_at _ _ _ _ rfl]; rfl
    have HB6 := Lib.hid (below_drewN hbel 1)
    have HN6 := Lib.hid (HN5.out.below (below_drewN hb1' 1) (Nat.le_refl _))
    have HSZ : Hid (w5.heap.size < (w5.alloc (.cells #[.bool false, .slice (some ⟨g, 0, none⟩) n cap] 69)).drew.heap.size) := by show _ < (w5.alloc _).heap.size; simp
    clear hbel hb1' HB5 HN5
    go_wp2_with (go_at_call 37; refine (C5.out _).mono ?_; rintro x w' ⟨rfl, rfl⟩)
    have hS0 := hS0
    generalize w5.alloc (.cells #[.bool false, .slice (some ⟨g, 0, none⟩) n cap] 69) = W6 at *
    go_region_held3 (fun W => W.cell? ⟨w5.heap.size, 0, none⟩ = some (.bool false) ∧ W.cell? ⟨w5.heap.size, 1, none⟩ = some (.slice (some ⟨g, 0, none⟩) n cap)) (first | assumption | go_keep)
      (first
        | (go_at_call 51; (with_reducible refine (C9.out _).mono ?_); rintro _ w7 ⟨r2, rfl, hr2, hb7⟩; have hs7 := s2_next HSZ.out hS0 hb7; have HB7 := Lib.hid (HB6.out.trans (hb7.mono HB6.out.size)); have HN7 := Lib.hid (HN6.out.below hb7 (Nat.le_refl _)); have HR7 := Lib.hid hr2; have HL7 := Lib.hid (Nat.lt_of_lt_of_le HSZ.out hb7.size); clear hr2 hb7)
        | (go_at_call 50; (with_reducible refine (same_any _ _ (S : Int) _ (intV_nat HN7.out) (intV_nat HR7.out) HX.out).mono ?_); rintro _ w8 ⟨rfl, hb8⟩; have hs8 := s2_next HL7.out hs7 hb8; have HB8 := Lib.hid (HB7.out.trans (hb8.mono HB7.out.size)); clear hb8))
    go_wp2_with (go_at_call 37; refine (C5.out _).mono ?_; rintro x w' ⟨rfl, rfl⟩)
    refine (C6.out _).mono ?_
    rintro x w9 ⟨rfl, hb9⟩
    have HB9 := Lib.hid (HB8.out.trans (hb9.mono HB8.out.size))
    clear hb9
    go_wp2_with fail
    refine (C7.out _).mono ?_
    rintro x w10 ⟨rfl, hb10⟩
    have HB10 := Lib.hid (HB9.out.trans (hb10.mono HB9.out.size))
    clear hb10
    go_wp2_with fail
    refine (C8.out _).mono ?_
    rintro x w11 ⟨rfl, hb11⟩
    have HB11 := Lib.hid (HB10.out.trans (hb11.mono HB10.out.size))
    clear hb11
    go_wp2_with fail
    go_ret
    exact ⟨rfl, HB11.out⟩

theorem funcs_law (k n : Int) (w : World) (hT : TabW w) (hB : 0 < w.heap.size) (_ : -9223372036854775808 ≤ k) (_ : k ≤ 9223372036854775807) (_ : -9223372036854775808 ≤ n) (_ : n ≤ 9223372036854775807) :
    Calls Tryd.prog 13 #[.int .i64 k, .int .i64 n] w fun x w' => x = .returned (.bool true) ∧ Below w.heap.size w w' := by
  by_cases h : n < 1 ∨ 2147483647 < n
  · exact funcs_bad k n w hT hB h
  · obtain ⟨N, rfl⟩ := Int.eq_ofNat_of_zero_le (show 0 ≤ n by omega)
    by_cases hk : k < 0 ∨ 64 < k
    · exact funcs_out k hk N w hT hB (by omega) (by omega)
    · obtain ⟨K, rfl⟩ := Int.eq_ofNat_of_zero_le (show 0 ≤ k by omega)
      exact funcs_in K (by omega) N w hT hB (by omega) (by omega)
end Go.Proofs.YtjmldlbiihaefaaDoor
