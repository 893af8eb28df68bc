/- Finite checks of the dimension formulas, by the kernel. -/
import Derived.Test.YtjijdabbhfefjaaGreatDoorPkDmK
namespace Go.Proofs.YtjijdabbhfefjaaGreatDoor
open Go Go.RowKit Go.VG HP
def nuC (D : Int) (n : Nat) : Int := prodL (fun p _ => 1 + jacC D p) (facC n)
def nu2C (n : Nat) : Int := if n % 4 = 0 then 0 else nuC (-4) n
def nu3C (n : Nat) : Int := if n % 9 = 0 then 0 else nuC (-3) n
def cspC (n : Nat) : Int := sumG (fun d => prodC phiF (Nat.gcd d (n / d))) (dvs n)
theorem nu_C {D : Int} {n : Nat} (h1 : 1 ≤ n) (h2 : n ≤ 120) : prodL (krF D) (facs n) = nuC D n := by
  unfold nuC
  rw [← facs_C h1 h2]
  refine prodL_congr _ fun x hx => ?_
  have := facs_mem h1 x hx
  have hp := this.1.pos
  have hle := Nat.le_of_dvd h1 this.2.2
  unfold krF
  rw [kro_pos (by omega), Int.toNat_natCast, jac_C hp (by omega)]
theorem nu2_C {n : Nat} (h1 : 1 ≤ n) (h2 : n ≤ 120) : nu2 n = nu2C n := by unfold nu2 nu2C; rw [nu_C h1 h2]
theorem nu3_C {n : Nat} (h1 : 1 ≤ n) (h2 : n ≤ 120) : nu3 n = nu3C n := by unfold nu3 nu3C; rw [nu_C h1 h2]
theorem csp_C {n : Nat} (h1 : 1 ≤ n) (h2 : n ≤ 120) : cspN n = cspC n := by
  unfold cspN cspC
  refine sumG_congr _ fun d hd => ?_
  have hd := (dvs_mem h1).1 hd
  have hd1 := Nat.pos_of_dvd_of_pos hd h1
  have hd2 := Nat.le_of_dvd h1 hd
  have hg : 0 < Nat.gcd d (n / d) := Nat.gcd_pos_of_pos_left _ hd1
  have hg2 := Nat.le_of_dvd hd1 (Nat.gcd_dvd_left d (n / d))
  unfold cspG
  rw [phi_C hg (by omega)]
theorem gen_chk : allB 121 (fun n => decide (n = 0) || (decide (cuspC n 2 1 = genV (prodC psiF n) (nu2C n) (nu3C n) (cspC n)) && decide (prodC (lamG 1) n = cspC n))) = true := by decide +kernel
theorem gen_eq {n : Nat} (h1 : 1 ≤ n) (h2 : n ≤ 120) : cuspV n 2 1 = genV (psi n) (nu2 n) (nu3 n) (cspN n) ∧ lam 1 n = cspN n := by
  have h := allB_at gen_chk (show n < 121 by omega)
  rw [decide_eq_false (by omega), Bool.false_or, Bool.and_eq_true, decide_eq_true_iff, decide_eq_true_iff] at h
  rw [cusp_C h1 h2 (by omega), psi_C h1 h2, nu2_C h1 h2, nu3_C h1 h2, csp_C h1 h2, lam_C (by omega) h1 h2]
  exact h
theorem mono_chk : allB 121 (fun n => (dvs n).all fun m => decide (prodC psiF m ≤ prodC psiF n)) = true := by decide +kernel
theorem psi_mono {n m : Nat} (h1 : 1 ≤ n) (h2 : n ≤ 120) (hd : m ∣ n) : psi m ≤ psi n := by
  have h := allB_at mono_chk (show n < 121 by omega)
  have := List.all_eq_true.1 h m ((dvs_mem h1).2 hd)
  have hm1 := Nat.pos_of_dvd_of_pos hd h1
  have hm2 := Nat.le_of_dvd h1 hd
  rw [psi_C h1 h2, psi_C hm1 (by omega)]
  exact of_decide_eq_true this
theorem DOk.down {n k m : Nat} {D : Int} (h : DOk n k D) (hm : m ∣ n) (hd : D.natAbs ∣ m) : DOk m k D := by
  have hm1 := Nat.pos_of_dvd_of_pos hm h.n0
  have hm2 := Nat.le_of_dvd h.n0 hm
  have hp := psi_mono h.n0 h.n1 hm
  refine ⟨hm1, by have := h.n1; omega, h.k0, h.k1, h.d0, h.d1, h.dz, h.d4, h.f, hd, h.par, ?_⟩
  have := Int.mul_le_mul_of_nonneg_right hp (show (0 : Int) ≤ (k : Int) - 1 by have := h.k0; omega)
  have := h.big
  omega
end Go.Proofs.YtjijdabbhfefjaaGreatDoor
