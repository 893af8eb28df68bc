/- The statements about traces: bounds. -/
import Derived.Test.YtjijdabbhfefjaaGreatDoorPkTlE
import Derived.Test.YtjijdabbhfefjaaGreatDoorPkTsH
namespace Go.Proofs.YtjijdabbhfefjaaGreatDoor
open Go Go.RowKit Go.VG HP
theorem bnd_fact {N k p : Nat} {Δ : Int} (ok : DOk N k Δ) (hp : p ∈ [2, 3, 5, 7, 11, 13, 17, 19, 23, 29]) (hm : ¬ N % p = 0) (n1 : 1 ≤ p) (n2 : p ≤ 128) (hg : Nat.gcd p N = 1) : (12 : Int) ∣ T12 N k Δ p ∧ T12 N k Δ p * T12 N k Δ p ≤ 576 * (cuspV N k Δ * cuspV N k Δ) * (p : Int) ^ (k - 1) := by
  have h0 := ok.n0
  have h1 := ok.n1
  have b : bndB N Δ = true := by
    by_cases c1 : N < 56
    · exact pairR_at bnd_chkH ok (by omega) c1
    by_cases c2 : N < 93
    · exact pairR_at bnd_chkI ok (by omega) c2
    · exact pairR_at bnd_chkJ ok (by omega) (by omega)
  have a := allL_at (f := fun k => allL (fun p => Nat.beq (N % p) 0 || bndP N k Δ (cuspC N k Δ) p) [2, 3, 5, 7, 11, 13, 17, 19, 23, 29]) b k (ksQ_mem ok)
  have a := allL_at (f := fun p => Nat.beq (N % p) 0 || bndP N k Δ (cuspC N k Δ) p) a p hp
  rw [beq_f hm, Bool.false_or] at a
  obtain ⟨a1, a2⟩ := of_decide_eq_true (p := T12Q N k Δ p % 12 = 0 ∧ T12Q N k Δ p * T12Q N k Δ p ≤ 576 * (cuspC N k Δ * cuspC N k Δ) * (p : Int) ^ (k - 1)) a
  rw [T12Q_ok ok n1 n2 hg] at a1 a2
  rw [← cusp_C ok.n0 ok.n1 ok.dz] at a2
  exact ⟨Int.dvd_of_emod_eq_zero a1, a2⟩
theorem bnd_ok {N k p : Nat} {Δ : Int} (ok : DOk N k Δ) (hp : p ∈ [2, 3, 5, 7, 11, 13, 17, 19, 23, 29]) (hm : ¬ N % p = 0) (n1 : 1 ≤ p) (n2 : p ≤ 128) (hg : Nat.gcd p N = 1) : ∃ X c, BndOk N k Δ p X c := by
  obtain ⟨f1, f2⟩ := bnd_fact ok hp hm n1 n2 hg
  have b := cuspV_bd Δ ok.n0 ok.n1 (show 1 ≤ k by have := ok.k0; omega) ok.k1
  refine ⟨_, _, Trace_ok N k p Δ ok n1 n2 hg f1, (trQ_ok ok n1 n2 f1).x, b.1, b.2, cusp_ok N k Δ ok, ok.k0, ok.k1, ?_⟩
  obtain ⟨X, hX⟩ := f1
  rw [hX] at f2 ⊢
  rw [Int.mul_ediv_cancel_left _ (by omega)]
  generalize cuspV N k Δ = c at *
  generalize (p : Int) ^ (k - 1) = Q at *
  have e1 : 12 * X * (12 * X) = 144 * (X * X) := by grind
  have e2 : 576 * (c * c) * Q = 144 * (Q * (4 * c * c)) := by grind
  omega
theorem prm_gcd {p N : Nat} (h : ¬ N % p = 0) (hp : ∀ d, d ∣ p → d = 1 ∨ d = p) : Nat.gcd p N = 1 := by
  rcases hp _ (Nat.gcd_dvd_left p N) with e | e
  · exact e
  · exact absurd (Nat.mod_eq_zero_of_dvd (by rw [← e]; exact Nat.gcd_dvd_right p N)) h
theorem bnd_err {N k p : Nat} {Δ : Int} (ok : DOk N k Δ) (h : N % p = 0) (p2 : 2 ≤ p) (p3 : p ≤ 128) : trE N k Δ p ≠ 0 := by
  unfold trE
  have hg : ¬ Int.gcd (p : Int) (N : Int) = 1 := by
    have : Nat.gcd p N = p := Nat.gcd_eq_left (Nat.dvd_of_mod_eq_zero h)
    show ¬ Nat.gcd p N = 1
    omega
  rw [ok.chk, if_neg (fun x => x rfl), if_neg (by omega), if_neg hg]
  decide
theorem dv_chk : [2, 3, 5, 7, 11, 13, 17, 19, 23, 29].all (fun p => allB 30 fun d => !(Nat.beq (p % d) 0) || (Nat.beq d 1 || Nat.beq d p)) = true := by decide +kernel
theorem dv_prm {p : Nat} (hp : p ∈ [2, 3, 5, 7, 11, 13, 17, 19, 23, 29]) (h0 : 1 ≤ p) (h9 : p ≤ 29) : ∀ d, d ∣ p → d = 1 ∨ d = p := fun d hd => by
  have a := List.all_eq_true.1 dv_chk p hp
  have a := allB_at a (show d < 30 by have := Nat.le_of_dvd h0 hd; omega)
  rw [beq_t (Nat.mod_eq_zero_of_dvd hd)] at a
  have a : (Nat.beq d 1 || Nat.beq d p) = true := a
  rw [Bool.or_eq_true] at a
  rcases a with a | a
  · exact .inl (Nat.eq_of_beq_eq_true a)
  · exact .inr (Nat.eq_of_beq_eq_true a)
theorem law_tbnd (L K D i : Int) (i0 : 0 ≤ i) (i1 : i ≤ 255) : Sp CX 10 [specA L K D, int .u8 i] (bool true) := by
  obtain ⟨i, rfl⟩ := Int.eq_ofNat_of_zero_le i0
  by_cases h : dchk L K D = 0
  · obtain ⟨N, k, rfl, rfl, ok⟩ := dchk_out h
    rcases (show i % 10 = 0 ∨ i % 10 = 1 ∨ i % 10 = 2 ∨ i % 10 = 3 ∨ i % 10 = 4 ∨ i % 10 = 5 ∨ i % 10 = 6 ∨ i % 10 = 7 ∨ i % 10 = 8 ∨ i % 10 = 9 by omega) with j | j | j | j | j | j | j | j | j | j
    · by_cases hm : N % 2 = 0
      · exact bnd2_bad N k D i j (bnd_err ok hm (by decide) (by decide))
      · obtain ⟨X, c, b⟩ := bnd_ok ok (p := 2) (by decide) hm (by decide) (by decide) (prm_gcd hm (dv_prm (by decide) (by decide) (by decide)))
        exact bnd2_ok N k D X c i j b
    · by_cases hm : N % 3 = 0
      · exact bnd3_bad N k D i j (bnd_err ok hm (by decide) (by decide))
      · obtain ⟨X, c, b⟩ := bnd_ok ok (p := 3) (by decide) hm (by decide) (by decide) (prm_gcd hm (dv_prm (by decide) (by decide) (by decide)))
        exact bnd3_ok N k D X c i j b
    · by_cases hm : N % 5 = 0
      · exact bnd5_bad N k D i j (bnd_err ok hm (by decide) (by decide))
      · obtain ⟨X, c, b⟩ := bnd_ok ok (p := 5) (by decide) hm (by decide) (by decide) (prm_gcd hm (dv_prm (by decide) (by decide) (by decide)))
        exact bnd5_ok N k D X c i j b
    · by_cases hm : N % 7 = 0
      · exact bnd7_bad N k D i j (bnd_err ok hm (by decide) (by decide))
      · obtain ⟨X, c, b⟩ := bnd_ok ok (p := 7) (by decide) hm (by decide) (by decide) (prm_gcd hm (dv_prm (by decide) (by decide) (by decide)))
        exact bnd7_ok N k D X c i j b
    · by_cases hm : N % 11 = 0
      · exact bnd11_bad N k D i j (bnd_err ok hm (by decide) (by decide))
      · obtain ⟨X, c, b⟩ := bnd_ok ok (p := 11) (by decide) hm (by decide) (by decide) (prm_gcd hm (dv_prm (by decide) (by decide) (by decide)))
        exact bnd11_ok N k D X c i j b
    · by_cases hm : N % 13 = 0
      · exact bnd13_bad N k D i j (bnd_err ok hm (by decide) (by decide))
      · obtain ⟨X, c, b⟩ := bnd_ok ok (p := 13) (by decide) hm (by decide) (by decide) (prm_gcd hm (dv_prm (by decide) (by decide) (by decide)))
        exact bnd13_ok N k D X c i j b
    · by_cases hm : N % 17 = 0
      · exact bnd17_bad N k D i j (bnd_err ok hm (by decide) (by decide))
      · obtain ⟨X, c, b⟩ := bnd_ok ok (p := 17) (by decide) hm (by decide) (by decide) (prm_gcd hm (dv_prm (by decide) (by decide) (by decide)))
        exact bnd17_ok N k D X c i j b
    · by_cases hm : N % 19 = 0
      · exact bnd19_bad N k D i j (bnd_err ok hm (by decide) (by decide))
      · obtain ⟨X, c, b⟩ := bnd_ok ok (p := 19) (by decide) hm (by decide) (by decide) (prm_gcd hm (dv_prm (by decide) (by decide) (by decide)))
        exact bnd19_ok N k D X c i j b
    · by_cases hm : N % 23 = 0
      · exact bnd23_bad N k D i j (bnd_err ok hm (by decide) (by decide))
      · obtain ⟨X, c, b⟩ := bnd_ok ok (p := 23) (by decide) hm (by decide) (by decide) (prm_gcd hm (dv_prm (by decide) (by decide) (by decide)))
        exact bnd23_ok N k D X c i j b
    · by_cases hm : N % 29 = 0
      · exact bnd29_bad N k D i j (bnd_err ok hm (by decide) (by decide))
      · obtain ⟨X, c, b⟩ := bnd_ok ok (p := 29) (by decide) hm (by decide) (by decide) (prm_gcd hm (dv_prm (by decide) (by decide) (by decide)))
        exact bnd29_ok N k D X c i j b
  · rcases (show i % 10 = 0 ∨ i % 10 = 1 ∨ i % 10 = 2 ∨ i % 10 = 3 ∨ i % 10 = 4 ∨ i % 10 = 5 ∨ i % 10 = 6 ∨ i % 10 = 7 ∨ i % 10 = 8 ∨ i % 10 = 9 by omega) with j | j | j | j | j | j | j | j | j | j
    · exact bnd2_bad L K D i j (trE_sp h)
    · exact bnd3_bad L K D i j (trE_sp h)
    · exact bnd5_bad L K D i j (trE_sp h)
    · exact bnd7_bad L K D i j (trE_sp h)
    · exact bnd11_bad L K D i j (trE_sp h)
    · exact bnd13_bad L K D i j (trE_sp h)
    · exact bnd17_bad L K D i j (trE_sp h)
    · exact bnd19_bad L K D i j (trE_sp h)
    · exact bnd23_bad L K D i j (trE_sp h)
    · exact bnd29_bad L K D i j (trE_sp h)
end Go.Proofs.YtjijdabbhfefjaaGreatDoor
