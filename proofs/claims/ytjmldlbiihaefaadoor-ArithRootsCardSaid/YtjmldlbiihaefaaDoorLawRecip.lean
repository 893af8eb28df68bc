/- The law ArithReciprocity: its walk. -/
import Derived.Test.YtjmldlbiihaefaaDoorRefA
namespace Go.Proofs.YtjmldlbiihaefaaDoor
open Go.RowKit HP

theorem tri_bd {x : Int} (h : Tri x) : -1 ≤ x ∧ x ≤ 1 := by rcases h with rfl | rfl | rfl <;> decide
theorem mul_bd31 {a b : Int} (h1 : -2147483648 < a) (h2 : a < 2147483648) (h3 : -2147483648 < b) (h4 : b < 2147483648) : -9223372036854775808 ≤ a * b ∧ a * b ≤ 9223372036854775807 := by
  have h := mul31 (x := a.natAbs) (y := b.natAbs) (by omega) (by omega)
  rw [← Int.natAbs_mul] at h
  omega

/-- what the second half of the law rests on -/
theorem recip_fact (a n : Int) : 0 < a → 0 < n → a % 2 = 1 → n % 2 = 1 → kro a n * kro n a = if Int.gcd a n = 1 then (if a % 4 = 3 ∧ n % 4 = 3 then -1 else 1) else 0 := by
  intro h1 h2 h3 h4
  rw [kro_recip h1 h2 h3 h4]
  obtain ⟨x, rfl⟩ := Int.eq_ofNat_of_zero_le (Int.le_of_lt h1)
  obtain ⟨y, rfl⟩ := Int.eq_ofNat_of_zero_le (Int.le_of_lt h2)
  rfl

/-- the law's last lines -/
theorem recip_end {a n A C g : Int} {x : Bool} (H : Hid (0 < a → 0 < n → a % 2 = 1 → n % 2 = 1 → A * C = if Int.gcd a n = 1 then (if a % 4 = 3 ∧ n % 4 = 3 then -1 else 1) else 0))
    (G : Hid (gcdW a n = g)) (h1 : 1 ≤ a) (h2 : ¬ a % 2 = 0) (h3 : 1 ≤ n) (h4 : ¬ n % 2 = 0)
    (hx : (g ≠ 1 → x = (A * C == 0)) ∧ (g = 1 → (a % 4 = 3 ∧ n % 4 = 3) → x = (A * C == -1)) ∧ (g = 1 → ¬ (a % 4 = 3 ∧ n % 4 = 3) → x = (A * C == 1))) : x = true := by
  have e := H.out (by omega) (by omega) (by omega) (by omega)
  have eg : gcdW a n = g := G
  unfold gcdW at eg
  obtain ⟨x1, x2, x3⟩ := hx
  by_cases hg : Int.gcd a n = 1
  · rw [if_pos hg] at e
    rw [hg] at eg
    have hg1 : g = 1 := by rw [← eg]; decide
    by_cases h : a % 4 = 3 ∧ n % 4 = 3
    · rw [if_pos h] at e
      rw [x2 hg1 h, e]; rfl
    · rw [if_neg h] at e
      rw [x3 hg1 h, e]; rfl
  · rw [if_neg hg] at e
    have hg1 : g ≠ 1 := by
      rw [← eg]
      split
      · decide
      · omega
    rw [x1 hg1, e]; rfl

set_option maxHeartbeats 2000000 in
theorem recip_law (a b n : Int) (w : World) (hT : TabW w) (hB : 0 < w.heap.size)
    (ha1 : -9223372036854775808 ≤ a) (ha2 : a ≤ 9223372036854775807) (hb1 : -9223372036854775808 ≤ b) (hb2 : b ≤ 9223372036854775807) (hn1 : -9223372036854775808 ≤ n) (hn2 : n ≤ 9223372036854775807) :
    Calls Tryd.prog 4 #[.int .i64 a, .int .i64 b, .int .i64 n] w fun x w' => x = .returned (.bool true) ∧ Below w.heap.size w w' := by
  by_cases hn : 0 < n
  · have caw := awake_any w hT hB
    have ck1 := fun w1 (h : TabW w1) => kronecker_any a n w1 ha1 ha2 hn1 hn2 h
    have ck2 := fun w1 (h : TabW w1) => kronecker_any n a w1 hn1 hn2 ha1 ha2 h
    have ck3 := fun w1 (h : TabW w1) => kronecker_any b n w1 hb1 hb2 hn1 hn2 h
    have ck4 := fun w1 (h : TabW w1) => kronecker_any n b w1 hn1 hn2 hb1 hb2 h
    have cg := fun w1 => rgcd_any a n w1 ha1 ha2 hn1 hn2
    have hf := recip_fact a n
    have t1 := tri_bd (kro_tri a n)
    have t2 := tri_bd (kro_tri n a)
    have t13 := tri_bd ((kro_tri a n).mul (kro_tri b n))
    have t24 := tri_bd ((kro_tri n a).mul (kro_tri n b))
    have t12 := tri_bd ((kro_tri a n).mul (kro_tri n a))
    have hml := kro_mul_left (a := a) (b := b) hn
    have hmr := kro_mul_right (a := a) (b := b) hn
    have HTB := Lib.hid hT
    have CAW := Lib.hid caw
    have CK1 := Lib.hid ck1
    have CK2 := Lib.hid ck2
    have CK3 := Lib.hid ck3
    have CK4 := Lib.hid ck4
    have CG := Lib.hid cg
    have HF := Lib.hid hf
    clear hT caw ck1 ck2 ck3 ck4 cg hf
    have ckl := fun w1 (h : TabW w1) (h1 : -9223372036854775808 ≤ a * b) (h2 : a * b ≤ 9223372036854775807) => kronecker_any (a * b) n w1 h1 h2 hn1 hn2 h
    have ckr := fun w1 (h : TabW w1) (h1 : -9223372036854775808 ≤ a * b) (h2 : a * b ≤ 9223372036854775807) => kronecker_any n (a * b) w1 hn1 hn2 h1 h2 h
    rw [hml] at ckl
    have hab' : ∀ h : a ≠ 0 ∧ b ≠ 0, kro n (a * b) = kro n a * kro n b := fun h => hmr h.1 h.2
    clear hml hmr
    generalize kro a n = K1 at *
    generalize kro n a = K2 at *
    generalize kro b n = K3 at *
    generalize kro n b = K4 at *
    generalize hgg : gcdW a n = g at *
    have GG := Lib.hid hgg
    have CKL := Lib.hid ckl
    have CKR := Lib.hid ckr
    have HAB := Lib.hid hab'
    clear ckl ckr hgg hab'
    by_cases hG : -2147483648 < a ∧ a < 2147483648 ∧ -2147483648 < b ∧ b < 2147483648
    · have hmb := mul_bd31 hG.1 hG.2.1 hG.2.2.1 hG.2.2.2
      obtain ⟨hm1, hm2⟩ := hmb
      obtain ⟨g1, g2, g3, g4⟩ := hG
      have d2 : decide (-2147483648 < a) = true := by simpa using g1
      have d3 : decide (a < 2147483648) = true := by simpa using g2
      have d4 : decide (-2147483648 < b) = true := by simpa using g3
      have d5 : decide (b < 2147483648) = true := by simpa using g4
      by_cases h0 : a ≠ 0 ∧ b ≠ 0
      · have e := HAB.out h0
        rw [e] at CKR
        clear e HAB
        obtain ⟨h01, h02⟩ := h0
        have b1 : (a != 0) = true := by simpa using h01
        have b2 : (b != 0) = true := by simpa using h02
        go_enter Tryd.func4, Tryd.ntmps4
        go_wp2_with fail
        refine CAW.out.mono ?_
        rintro x w1 ⟨rfl, hb1⟩
        have hT1 := Lib.hid (HTB.out.below hb1 hB)
        have HB1 := Lib.hid hb1
        clear hb1
        go_wp2_with (first
          | (go_at_call 16; with_reducible refine (CKL.out _ hT1.out hm1 hm2).mono ?_; rintro x w' ⟨rfl, rfl⟩)
          | (go_at_call 16; with_reducible refine (CKR.out _ hT1.out hm1 hm2).mono ?_; rintro x w' ⟨rfl, rfl⟩)
          | (go_at_call 16; with_reducible refine (CK1.out _ hT1.out).mono ?_; rintro x w' ⟨rfl, rfl⟩)
          | (go_at_call 16; with_reducible refine (CK2.out _ hT1.out).mono ?_; rintro x w' ⟨rfl, rfl⟩)
          | (go_at_call 16; with_reducible refine (CK3.out _ hT1.out).mono ?_; rintro x w' ⟨rfl, rfl⟩)
          | (go_at_call 16; with_reducible refine (CK4.out _ hT1.out).mono ?_; rintro x w' ⟨rfl, rfl⟩)
          | (go_at_call 18; refine (CG.out _).mono ?_; rintro x w' ⟨rfl, rfl⟩))
        all_goals go_ret
        all_goals first
          | exact ⟨rfl, HB1.out⟩
          | (refine ⟨congrArg (fun x => Ending.returned (Value.bool x)) ?_, HB1.out⟩
             clear CK1 CK2 CK3 CK4 CG CKL CKR CAW HTB hT1 HB1
             refine recip_end HF GG ?_ ?_ ?_ ?_ ⟨fun h => ?_, fun h h' => ?_, fun h h' => ?_⟩
             all_goals first | rfl | (try simp only [beq_iff_eq, beq_eq_false_iff_ne, bne_iff_ne, bne_eq_false_iff_eq, ne_eq] at *; omega))
      · have hz : a = 0 ∨ b = 0 := by omega
        clear h0
        have hz' : (a != 0) = false ∨ ((a != 0) = true ∧ (b != 0) = false) := by
          simp only [bne_iff_ne, bne_eq_false_iff_eq, ne_eq]; omega
        clear hz
        rcases hz' with hz1 | ⟨hz1, hz2⟩
        · go_enter Tryd.func4, Tryd.ntmps4
          go_wp2_with fail
          refine CAW.out.mono ?_
          rintro x w1 ⟨rfl, hb1⟩
          have hT1 := Lib.hid (HTB.out.below hb1 hB)
          have HB1 := Lib.hid hb1
          clear hb1
          go_wp2_with (first
            | (go_at_call 16; with_reducible refine (CKL.out _ hT1.out hm1 hm2).mono ?_; rintro x w' ⟨rfl, rfl⟩)
            | (go_at_call 16; with_reducible refine (CKR.out _ hT1.out hm1 hm2).mono ?_; rintro x w' ⟨rfl, rfl⟩)
            | (go_at_call 16; with_reducible refine (CK1.out _ hT1.out).mono ?_; rintro x w' ⟨rfl, rfl⟩)
            | (go_at_call 16; with_reducible refine (CK2.out _ hT1.out).mono ?_; rintro x w' ⟨rfl, rfl⟩)
            | (go_at_call 16; with_reducible refine (CK3.out _ hT1.out).mono ?_; rintro x w' ⟨rfl, rfl⟩)
            | (go_at_call 16; with_reducible refine (CK4.out _ hT1.out).mono ?_; rintro x w' ⟨rfl, rfl⟩)
            | (go_at_call 18; refine (CG.out _).mono ?_; rintro x w' ⟨rfl, rfl⟩))
          all_goals go_ret
          all_goals first
            | exact ⟨rfl, HB1.out⟩
            | (refine ⟨congrArg (fun x => Ending.returned (Value.bool x)) ?_, HB1.out⟩
               clear CK1 CK2 CK3 CK4 CG CKL CKR CAW HTB hT1 HB1
               refine recip_end HF GG ?_ ?_ ?_ ?_ ⟨fun h => ?_, fun h h' => ?_, fun h h' => ?_⟩
               all_goals first | rfl | (try simp only [beq_iff_eq, beq_eq_false_iff_ne, bne_iff_ne, bne_eq_false_iff_eq, ne_eq] at *; omega))
        · go_enter Tryd.func4, Tryd.ntmps4
          go_wp2_with fail
          refine CAW.out.mono ?_
          rintro x w1 ⟨rfl, hb1⟩
          have hT1 := Lib.hid (HTB.out.below hb1 hB)
          have HB1 := Lib.hid hb1
          clear hb1
          go_wp2_with (first
            | (go_at_call 16; with_reducible refine (CKL.out _ hT1.out hm1 hm2).mono ?_; rintro x w' ⟨rfl, rfl⟩)
            | (go_at_call 16; with_reducible refine (CKR.out _ hT1.out hm1 hm2).mono ?_; rintro x w' ⟨rfl, rfl⟩)
            | (go_at_call 16; with_reducible refine (CK1.out _ hT1.out).mono ?_; rintro x w' ⟨rfl, rfl⟩)
            | (go_at_call 16; with_reducible refine (CK2.out _ hT1.out).mono ?_; rintro x w' ⟨rfl, rfl⟩)
            | (go_at_call 16; with_reducible refine (CK3.out _ hT1.out).mono ?_; rintro x w' ⟨rfl, rfl⟩)
            | (go_at_call 16; with_reducible refine (CK4.out _ hT1.out).mono ?_; rintro x w' ⟨rfl, rfl⟩)
            | (go_at_call 18; refine (CG.out _).mono ?_; rintro x w' ⟨rfl, rfl⟩))
          all_goals go_ret
          all_goals first
            | exact ⟨rfl, HB1.out⟩
            | (refine ⟨congrArg (fun x => Ending.returned (Value.bool x)) ?_, HB1.out⟩
               clear CK1 CK2 CK3 CK4 CG CKL CKR CAW HTB hT1 HB1
               refine recip_end HF GG ?_ ?_ ?_ ?_ ⟨fun h => ?_, fun h h' => ?_, fun h h' => ?_⟩
               all_goals first | rfl | (try simp only [beq_iff_eq, beq_eq_false_iff_ne, bne_iff_ne, bne_eq_false_iff_eq, ne_eq] at *; omega))
    · go_enter Tryd.func4, Tryd.ntmps4
      go_wp2_with fail
      refine CAW.out.mono ?_
      rintro x w1 ⟨rfl, hb1⟩
      have hT1 := Lib.hid (HTB.out.below hb1 hB)
      have HB1 := Lib.hid hb1
      clear hb1
      go_wp2_with (first
        | (go_at_call 16; with_reducible refine (CK1.out _ hT1.out).mono ?_; rintro x w' ⟨rfl, rfl⟩)
        | (go_at_call 16; with_reducible refine (CK2.out _ hT1.out).mono ?_; rintro x w' ⟨rfl, rfl⟩)
        | (go_at_call 18; refine (CG.out _).mono ?_; rintro x w' ⟨rfl, rfl⟩))
      all_goals go_ret
      all_goals first
        | exact ⟨rfl, HB1.out⟩
        | (refine ⟨congrArg (fun x => Ending.returned (Value.bool x)) ?_, HB1.out⟩
           clear CK1 CK2 CK3 CK4 CG CKL CKR CAW HTB hT1 HB1
           refine recip_end HF GG ?_ ?_ ?_ ?_ ⟨fun h => ?_, fun h h' => ?_, fun h h' => ?_⟩
           all_goals first | rfl | (try simp only [beq_iff_eq, beq_eq_false_iff_ne, bne_iff_ne, bne_eq_false_iff_eq, ne_eq] at *; omega))
  · have dn : decide (0 < n) = false := by simpa using hn
    go_enter Tryd.func4, Tryd.ntmps4
    go_wp2_with fail
    refine (awake_any w hT hB).mono ?_
    rintro x w1 ⟨rfl, hb1⟩
    have HB1 := Lib.hid hb1
    clear hb1
    go_wp2
    all_goals go_ret
    all_goals exact ⟨rfl, HB1.out⟩
end Go.Proofs.YtjmldlbiihaefaaDoor
