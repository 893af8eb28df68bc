/- Own texts joined: DmN, DmO, DmP. -/
import Derived.Test.YteamlpflgfmieaaDoorPkDmK
/- Finite checks of the dimension formulas, by the kernel. -/
namespace Go.Proofs.YteamlpflgfmieaaDoor
open Go Go.RowKit Go.VG HP
set_option maxRecDepth 100000 in
theorem new_chk : allB 241 (fun i => !(decide ((i : Int) - 120 = 1) || fundB ((i : Int) - 120)) || allB 121 fun m => decide (m = 0) || !decide (m % ((i : Int) - 120).natAbs = 0) || allB 25 fun k => decide (k < 2) || !(decide ((i : Int) - 120 < 0) == decide (k % 2 = 1)) || decide (512 < prodC psiF m * ((k : Int) - 1)) || decide (0 ≤ newC m k ((i : Int) - 120))) = true := by decide +kernel
def nuC (D : Int) (n : Nat) : Int := prodL (fun p _ => 1 + jacC D p) (facC n)
def nu2C (n : Nat) : Int := if n % 4 = 0 then 0 else nuC (-4) n
def nu3C (n : Nat) : Int := if n % 9 = 0 then 0 else nuC (-3) n
def cspC (n : Nat) : Int := sumG (fun d => prodC phiF (Nat.gcd d (n / d))) (dvs n)
theorem nu_C {D : Int} {n : Nat} (h1 : 1 ≤ n) (h2 : n ≤ 120) : prodL (krF D) (facs n) = nuC D n := by
  unfold nuC
  rw [← facs_C h1 h2]
  refine prodL_congr _ fun x hx => ?_
  have := facs_mem h1 x hx
  have hp := this.1.pos
  have hle := Nat.le_of_dvd h1 this.2.2
  unfold krF
  rw [kro_pos (by omega), Int.toNat_natCast, jac_C hp (by omega)]
theorem nu2_C {n : Nat} (h1 : 1 ≤ n) (h2 : n ≤ 120) : nu2 n = nu2C n := by unfold nu2 nu2C; rw [nu_C h1 h2]
theorem nu3_C {n : Nat} (h1 : 1 ≤ n) (h2 : n ≤ 120) : nu3 n = nu3C n := by unfold nu3 nu3C; rw [nu_C h1 h2]
theorem csp_C {n : Nat} (h1 : 1 ≤ n) (h2 : n ≤ 120) : cspN n = cspC n := by
  unfold cspN cspC
  refine sumG_congr _ fun d hd => ?_
  have hd := (dvs_mem h1).1 hd
  have hd1 := Nat.pos_of_dvd_of_pos hd h1
  have hd2 := Nat.le_of_dvd h1 hd
  have hg : 0 < Nat.gcd d (n / d) := Nat.gcd_pos_of_pos_left _ hd1
  have hg2 := Nat.le_of_dvd hd1 (Nat.gcd_dvd_left d (n / d))
  unfold cspG
  rw [phi_C hg (by omega)]
theorem new_pos {m k : Nat} {D : Int} (h : DOk m k D) : 0 ≤ newV m k D := by
  obtain ⟨n0, n1, k0, k1, d0, d1, dz, _, f, dv, par, bg⟩ := h
  rw [new_C n0 n1 dz]
  rw [psi_C n0 n1] at bg
  obtain ⟨i, hi⟩ := Int.eq_ofNat_of_zero_le (a := D + 120) (by omega)
  have e : (i : Int) - 120 = D := by omega
  have h1 := allB_at new_chk (show i < 241 by omega)
  simp only [e] at h1
  have hf : (decide (D = 1) || fundB D) = true := by rw [Bool.or_eq_true, decide_eq_true_iff]; exact f
  rw [hf, Bool.not_true, Bool.false_or] at h1
  have h2 := allB_at h1 (show m < 121 by omega)
  have h3 : (decide (m = 0) || !decide (m % D.natAbs = 0)) = false := by
    rw [decide_eq_false (by omega), decide_eq_true (Nat.mod_eq_zero_of_dvd dv)]; rfl
  rw [h3, Bool.false_or] at h2
  have h4 := allB_at h2 (show k < 25 by omega)
  have h5 : (decide (k < 2) || !(decide (D < 0) == decide (k % 2 = 1))) = false := by
    rw [decide_eq_false (by omega)]
    have : (decide (D < 0) == decide (k % 2 = 1)) = true := by rw [beq_iff_eq, decide_eq_decide]; exact par
    rw [this]; rfl
  rw [h5, Bool.false_or, decide_eq_false (by omega), Bool.false_or, decide_eq_true_iff] at h4
  exact h4
theorem gen_chk : allB 121 (fun n => decide (n = 0) || (decide (cuspC n 2 1 = genV (prodC psiF n) (nu2C n) (nu3C n) (cspC n)) && decide (prodC (lamG 1) n = cspC n))) = true := by decide +kernel
theorem gen_eq {n : Nat} (h1 : 1 ≤ n) (h2 : n ≤ 120) : cuspV n 2 1 = genV (psi n) (nu2 n) (nu3 n) (cspN n) ∧ lam 1 n = cspN n := by
  have h := allB_at gen_chk (show n < 121 by omega)
  rw [decide_eq_false (by omega), Bool.false_or, Bool.and_eq_true, decide_eq_true_iff, decide_eq_true_iff] at h
  rw [cusp_C h1 h2 (by omega), psi_C h1 h2, nu2_C h1 h2, nu3_C h1 h2, csp_C h1 h2, lam_C (by omega) h1 h2]
  exact h
def eisC (n k : Nat) : Int := prodC (lamG 1) n - if k = 2 then 1 else 0
set_option maxRecDepth 100000 in
theorem sig_chk : allB 121 (fun n => decide (n = 0) || allB 25 fun k => decide (k < 2) || decide (k % 2 = 1) || decide (512 < prodC psiF n * ((k : Int) - 1)) || (decide (csig (prodC psiF n) (genV (prodC psiF n) (nu2C n) (nu3C n) (cspC n)) (nu2C n) (nu3C n) (cspC n) 0 true k = 0) && decide (cuspC n k 1 = cuspS (genV (prodC psiF n) (nu2C n) (nu3C n) (cspC n)) (nu2C n) (nu3C n) (cspC n) 0 k) && decide (cuspC n k 1 + eisC n k = modS (genV (prodC psiF n) (nu2C n) (nu3C n) (cspC n)) (nu2C n) (nu3C n) (cspC n) 0 k))) = true := by decide +kernel
theorem sig_eq {n k : Nat} (h : DOk n k 1) : csig (psi n) (genV (psi n) (nu2 n) (nu3 n) (cspN n)) (nu2 n) (nu3 n) (cspN n) 0 true k = 0 ∧ cuspV n k 1 = cuspS (genV (psi n) (nu2 n) (nu3 n) (cspN n)) (nu2 n) (nu3 n) (cspN n) 0 k ∧
    (cuspV n k 1 + (lam (1 : Int).natAbs n - if k = 2 ∧ (1 : Int).natAbs = 1 then 1 else 0)) = modS (genV (psi n) (nu2 n) (nu3 n) (cspN n)) (nu2 n) (nu3 n) (cspN n) 0 k := by
  obtain ⟨h1, h2, k0, k1, _, _, _, _, _, _, par, bg⟩ := h
  have h := allB_at sig_chk (show n < 121 by omega)
  rw [decide_eq_false (by omega), Bool.false_or] at h
  have h := allB_at h (show k < 25 by omega)
  rw [psi_C h1 h2] at bg
  rw [decide_eq_false (by omega), decide_eq_false (p := k % 2 = 1) (by omega), decide_eq_false (p := 512 < _) (by omega), Bool.false_or, Bool.false_or, Bool.false_or, Bool.and_eq_true, Bool.and_eq_true, decide_eq_true_iff, decide_eq_true_iff, decide_eq_true_iff] at h
  rw [cusp_C h1 h2 (by omega), psi_C h1 h2, nu2_C h1 h2, nu3_C h1 h2, csp_C h1 h2, lam_C (by omega) h1 h2]
  refine ⟨h.1.1, h.1.2, ?_⟩
  rw [← h.2]
  unfold eisC
  simp
theorem one_chk : allB 25 (fun k => decide (k < 2) || decide (k % 2 = 1) || decide (cuspC 1 k 1 + eisC 1 k = if k % 12 = 2 then ((k / 12 : Nat) : Int) else ((k / 12 : Nat) : Int) + 1)) = true := by decide +kernel
theorem one_eq {k : Nat} (h : DOk 1 k 1) : (cuspV 1 k 1 + (lam (1 : Int).natAbs 1 - if k = 2 ∧ (1 : Int).natAbs = 1 then 1 else 0)) = if k % 12 = 2 then ((k / 12 : Nat) : Int) else ((k / 12 : Nat) : Int) + 1 := by
  obtain ⟨h1, h2, k0, k1, _, _, _, _, _, _, par, bg⟩ := h
  have h := allB_at one_chk (show k < 25 by omega)
  rw [decide_eq_false (by omega), decide_eq_false (p := k % 2 = 1) (by omega), Bool.false_or, Bool.false_or, decide_eq_true_iff] at h
  rw [cusp_C h1 h2 (by omega), lam_C (by omega) h1 h2, ← h]
  unfold eisC
  simp
theorem mono_chk : allB 121 (fun n => (dvs n).all fun m => decide (prodC psiF m ≤ prodC psiF n)) = true := by decide +kernel
theorem psi_mono {n m : Nat} (h1 : 1 ≤ n) (h2 : n ≤ 120) (hd : m ∣ n) : psi m ≤ psi n := by
  have h := allB_at mono_chk (show n < 121 by omega)
  have := List.all_eq_true.1 h m ((dvs_mem h1).2 hd)
  have hm1 := Nat.pos_of_dvd_of_pos hd h1
  have hm2 := Nat.le_of_dvd h1 hd
  rw [psi_C h1 h2, psi_C hm1 (by omega)]
  exact of_decide_eq_true this
theorem DOk.down {n k m : Nat} {D : Int} (h : DOk n k D) (hm : m ∣ n) (hd : D.natAbs ∣ m) : DOk m k D := by
  have hm1 := Nat.pos_of_dvd_of_pos hm h.n0
  have hm2 := Nat.le_of_dvd h.n0 hm
  have hp := psi_mono h.n0 h.n1 hm
  refine ⟨hm1, by have := h.n1; omega, h.k0, h.k1, h.d0, h.d1, h.dz, h.d4, h.f, hd, h.par, ?_⟩
  have := Int.mul_le_mul_of_nonneg_right hp (show (0 : Int) ≤ (k : Int) - 1 by have := h.k0; omega)
  have := h.big
  omega
end Go.Proofs.YteamlpflgfmieaaDoor

/- The laws of the dimensions, all but that of the old forms. -/
namespace Go.Proofs.YteamlpflgfmieaaDoor
open Go Go.RowKit Go.VG HP
theorem dte {x : Int} : decide (x = x) = true := decide_eq_true rfl
set_option maxHeartbeats 4000000 in
theorem law_checks (L K D : Int) : Sp CX 3 [specA L K D] (bool true) := by
  have s0 := awake_sp
  have s1 := checkr_sp L K D
  have s2 := checkm_sp L K D
  by_cases h : dchk L K D = 0
  · obtain ⟨n, k, rfl, rfl, ok⟩ := dchk_out h
    have s3 := sturm_ok n k D ok
    have s4 := sturmr_sp n k D ok.n0 ok.n1 ok.k1
    rw [h] at s1 s2
    obtain ⟨x, hx⟩ : ∃ x, x = ((k : Int) * psi n).tdiv 12 := ⟨_, rfl⟩
    rw [← hx] at s3 s4
    clear hx h ok
    refine fn_sp (C := CX) [] [] tysX_ok mixed Tryd.func3 rfl (by kernel_rfl) Tryd.ntmps3 rfl rfl ?_
    repeat' (conv => whnf
             first
               | (refine Ob.mk (by (first | omega | (simp only [InK]; omega) | exact ⟨by omega, tdivIn (by omega) (by omega)⟩ | exact ⟨by first | omega | (simp only [InK]; omega), by first | omega | (simp only [InK]; omega)⟩)) ?_)
               | (refine Cases.yes (by (first | assumption | exact decide_eq_true (by first | assumption | omega) | exact congrArg (!·) (decide_eq_false (by first | assumption | omega)) | exact congrArg (!·) (show _ = false by assumption) | rfl)) ?_)
               | (refine Cases.no (by (first | assumption | exact decide_eq_false (by first | assumption | omega) | exact congrArg (!·) (decide_eq_true (by first | assumption | omega)) | exact congrArg (!·) (show _ = true by assumption) | rfl)) ?_)
               | (refine Idx.mk ⟨_, rfl, by first | assumption | omega, ?_⟩)
               | (refine Idx.mk ⟨0, rfl, by omega, ?_⟩)
               | (refine DrawOb.start ?_)
               | (refine TryF.fast rfl (by decide +kernel) (by kernel_rfl) ?_)
               | (refine TryF.next rfl ?_)
               | (refine TryF.other ?_)
               | (refine TryG.go rfl (by decide +kernel) (by kernel_rfl) ?_)
               | (refine TryG.next rfl ?_)
               | (refine Sp.call (s0) (ArgsLe.refl _) rfl (AvLe.refl _) ?_)
               | (refine Sp.call (s1) (ArgsLe.refl _) rfl (AvLe.refl _) ?_)
               | (refine Sp.call (s2) (ArgsLe.refl _) rfl (AvLe.refl _) ?_)
               | (refine Sp.call (s3) (ArgsLe.refl _) rfl (AvLe.refl _) ?_)
               | (refine Sp.call (s4) (ArgsLe.refl _) rfl (AvLe.refl _) ?_))
    refine ⟨⟨_, _, rfl, rfl, ?_⟩⟩
    exact AvLe.bool dte
  · have s3 := sturm_bad L K D h
    obtain ⟨e, he⟩ : ∃ e, e = dchk L K D := ⟨_, rfl⟩
    rw [← he] at s1 s2 s3 h
    clear he
    refine fn_sp (C := CX) [] [] tysX_ok mixed Tryd.func3 rfl (by kernel_rfl) Tryd.ntmps3 rfl rfl ?_
    repeat' (conv => whnf
             first
               | (refine Ob.mk (by (first | omega | (simp only [InK]; omega) | exact ⟨by omega, tdivIn (by omega) (by omega)⟩ | exact ⟨by first | omega | (simp only [InK]; omega), by first | omega | (simp only [InK]; omega)⟩)) ?_)
               | (refine Cases.yes (by (first | assumption | exact decide_eq_true (by first | assumption | omega) | exact congrArg (!·) (decide_eq_false (by first | assumption | omega)) | exact congrArg (!·) (show _ = false by assumption) | rfl)) ?_)
               | (refine Cases.no (by (first | assumption | exact decide_eq_false (by first | assumption | omega) | exact congrArg (!·) (decide_eq_true (by first | assumption | omega)) | exact congrArg (!·) (show _ = true by assumption) | rfl)) ?_)
               | (refine Idx.mk ⟨_, rfl, by first | assumption | omega, ?_⟩)
               | (refine Idx.mk ⟨0, rfl, by omega, ?_⟩)
               | (refine DrawOb.start ?_)
               | (refine TryF.fast rfl (by decide +kernel) (by kernel_rfl) ?_)
               | (refine TryF.next rfl ?_)
               | (refine TryF.other ?_)
               | (refine TryG.go rfl (by decide +kernel) (by kernel_rfl) ?_)
               | (refine TryG.next rfl ?_)
               | (refine Sp.call (s0) (ArgsLe.refl _) rfl (AvLe.refl _) ?_)
               | (refine Sp.call (s1) (ArgsLe.refl _) rfl (AvLe.refl _) ?_)
               | (refine Sp.call (s2) (ArgsLe.refl _) rfl (AvLe.refl _) ?_)
               | (refine Sp.call (s3) (ArgsLe.refl _) rfl (AvLe.refl _) ?_))
    refine ⟨⟨_, _, rfl, rfl, ?_⟩⟩
    exact AvLe.bool dte
set_option maxHeartbeats 4000000 in
theorem law_spaces (L K D : Int) : Sp CX 7 [specA L K D] (bool true) := by
  have s0 := awake_sp
  have s1 := checkr_sp L K D
  by_cases h : dchk L K D = 0
  · obtain ⟨n, k, rfl, rfl, ok⟩ := dchk_out h
    have s2 := cusp_ok n k D ok
    have s3 := eisen_ok n k D ok
    have s4 := modular_ok n k D ok
    have s5 := new_ok n k D ok
    have s6 := cuspr_sp n k D ok.n0 ok.n1 ok.dz ok.d0 ok.d1 ok.dvd ok.k0 ok.k1
    have s7 := eisr_sp n k D ok.n0 ok.n1 ok.dz ok.d4 ok.d0 ok.d1 ok.dvd ok.k0 ok.k1
    have s8 := newr_sp n k D ok.n0 ok.n1 ok.dz ok.d0 ok.d1 ok.k0 ok.k1
    have b1 := cuspV_bd D ok.n0 ok.n1 (show 1 ≤ k by have := ok.k0; omega) ok.k1
    have b2 := lam_small (f := D.natAbs) ok.n0 ok.n1
    rw [h] at s1
    obtain ⟨y, hy⟩ : ∃ y, y = lam D.natAbs n - if k = 2 ∧ D.natAbs = 1 then 1 else 0 := ⟨_, rfl⟩
    have b3 : -100000 ≤ y ∧ y ≤ 100000 := by rw [hy]; split <;> omega
    rw [← hy] at s3 s4 s7
    obtain ⟨x, hx⟩ : ∃ x, x = cuspV n k D := ⟨_, rfl⟩
    rw [← hx] at s2 s4 s6 b1
    obtain ⟨z, hz⟩ : ∃ z, z = newV n k D := ⟨_, rfl⟩
    rw [← hz] at s5 s8
    clear hx hy hz h ok b2
    refine fn_sp (C := CX) [] [] tysX_ok mixed Tryd.func7 rfl (by kernel_rfl) Tryd.ntmps7 rfl rfl ?_
    repeat' (conv => whnf
             first
               | (refine Ob.mk (by (first | omega | (simp only [InK]; omega) | exact ⟨by omega, tdivIn (by omega) (by omega)⟩ | exact ⟨by first | omega | (simp only [InK]; omega), by first | omega | (simp only [InK]; omega)⟩)) ?_)
               | (refine Cases.yes (by (first | assumption | exact decide_eq_true (by first | assumption | omega) | exact congrArg (!·) (decide_eq_false (by first | assumption | omega)) | exact congrArg (!·) (show _ = false by assumption) | rfl)) ?_)
               | (refine Cases.no (by (first | assumption | exact decide_eq_false (by first | assumption | omega) | exact congrArg (!·) (decide_eq_true (by first | assumption | omega)) | exact congrArg (!·) (show _ = true by assumption) | rfl)) ?_)
               | (refine Idx.mk ⟨_, rfl, by first | assumption | omega, ?_⟩)
               | (refine Idx.mk ⟨0, rfl, by omega, ?_⟩)
               | (refine DrawOb.start ?_)
               | (refine TryF.fast rfl (by decide +kernel) (by kernel_rfl) ?_)
               | (refine TryF.next rfl ?_)
               | (refine TryF.other ?_)
               | (refine TryG.go rfl (by decide +kernel) (by kernel_rfl) ?_)
               | (refine TryG.next rfl ?_)
               | (refine Sp.call (s0) (ArgsLe.refl _) rfl (AvLe.refl _) ?_)
               | (refine Sp.call (s1) (ArgsLe.refl _) rfl (AvLe.refl _) ?_)
               | (refine Sp.call (s2) (ArgsLe.refl _) rfl (AvLe.refl _) ?_)
               | (refine Sp.call (s3) (ArgsLe.refl _) rfl (AvLe.refl _) ?_)
               | (refine Sp.call (s4) (ArgsLe.refl _) rfl (AvLe.refl _) ?_)
               | (refine Sp.call (s5) (ArgsLe.refl _) rfl (AvLe.refl _) ?_)
               | (refine Sp.call (s6) (ArgsLe.refl _) rfl (AvLe.refl _) ?_)
               | (refine Sp.call (s7) (ArgsLe.refl _) rfl (AvLe.refl _) ?_)
               | (refine Sp.call (s8) (ArgsLe.refl _) rfl (AvLe.refl _) ?_))
    refine ⟨⟨_, _, rfl, rfl, ?_⟩⟩
    exact AvLe.bool dte
  · have s2 := cusp_bad L K D h
    have s3 := eisen_bad L K D h
    have s4 := modular_bad L K D h
    have s5 := new_bad L K D h
    obtain ⟨e, he⟩ : ∃ e, e = dchk L K D := ⟨_, rfl⟩
    rw [← he] at s1 s2 s3 s4 s5 h
    clear he
    refine fn_sp (C := CX) [] [] tysX_ok mixed Tryd.func7 rfl (by kernel_rfl) Tryd.ntmps7 rfl rfl ?_
    repeat' (conv => whnf
             first
               | (refine Ob.mk (by (first | omega | (simp only [InK]; omega) | exact ⟨by omega, tdivIn (by omega) (by omega)⟩ | exact ⟨by first | omega | (simp only [InK]; omega), by first | omega | (simp only [InK]; omega)⟩)) ?_)
               | (refine Cases.yes (by (first | assumption | exact decide_eq_true (by first | assumption | omega) | exact congrArg (!·) (decide_eq_false (by first | assumption | omega)) | exact congrArg (!·) (show _ = false by assumption) | rfl)) ?_)
               | (refine Cases.no (by (first | assumption | exact decide_eq_false (by first | assumption | omega) | exact congrArg (!·) (decide_eq_true (by first | assumption | omega)) | exact congrArg (!·) (show _ = true by assumption) | rfl)) ?_)
               | (refine Idx.mk ⟨_, rfl, by first | assumption | omega, ?_⟩)
               | (refine Idx.mk ⟨0, rfl, by omega, ?_⟩)
               | (refine DrawOb.start ?_)
               | (refine TryF.fast rfl (by decide +kernel) (by kernel_rfl) ?_)
               | (refine TryF.next rfl ?_)
               | (refine TryF.other ?_)
               | (refine TryG.go rfl (by decide +kernel) (by kernel_rfl) ?_)
               | (refine TryG.next rfl ?_)
               | (refine Sp.call (s0) (ArgsLe.refl _) rfl (AvLe.refl _) ?_)
               | (refine Sp.call (s1) (ArgsLe.refl _) rfl (AvLe.refl _) ?_)
               | (refine Sp.call (s2) (ArgsLe.refl _) rfl (AvLe.refl _) ?_)
               | (refine Sp.call (s3) (ArgsLe.refl _) rfl (AvLe.refl _) ?_)
               | (refine Sp.call (s4) (ArgsLe.refl _) rfl (AvLe.refl _) ?_)
               | (refine Sp.call (s5) (ArgsLe.refl _) rfl (AvLe.refl _) ?_))
    refine ⟨⟨_, _, rfl, rfl, ?_⟩⟩
    exact AvLe.bool rfl
set_option maxHeartbeats 4000000 in
theorem law_formulas (I G N2 N3 C R : Int) (M : Bool) (K : Int) : Sp CX 5 [sigA I G N2 N3 C R M, int .i64 K] (bool true) := by
  have s0 := awake_sp
  have s1 := csigr_sp I G N2 N3 C R M K
  by_cases h : csig I G N2 N3 C R M K = 0
  · have s2 := cuspSm_sp I G N2 N3 C R M K h
    have s3 := modSm_sp I G N2 N3 C R M K h
    have s4 := cuspSr_sp I G N2 N3 C R M K h
    have s5 := modSr_sp I G N2 N3 C R M K h
    rw [h] at s1
    obtain ⟨x, hx⟩ : ∃ x, x = cuspS G N2 N3 C R K := ⟨_, rfl⟩
    obtain ⟨y, hy⟩ : ∃ y, y = modS G N2 N3 C R K := ⟨_, rfl⟩
    rw [← hx] at s2 s4
    rw [← hy] at s3 s5
    clear hx hy h
    refine fn_sp (C := CX) [] [] tysX_ok mixed Tryd.func5 rfl (by kernel_rfl) Tryd.ntmps5 rfl rfl ?_
    repeat' (conv => whnf
             first
               | (refine Ob.mk (by (first | omega | (simp only [InK]; omega) | exact ⟨by omega, tdivIn (by omega) (by omega)⟩ | exact ⟨by first | omega | (simp only [InK]; omega), by first | omega | (simp only [InK]; omega)⟩)) ?_)
               | (refine Cases.yes (by (first | assumption | exact decide_eq_true (by first | assumption | omega) | exact congrArg (!·) (decide_eq_false (by first | assumption | omega)) | exact congrArg (!·) (show _ = false by assumption) | rfl)) ?_)
               | (refine Cases.no (by (first | assumption | exact decide_eq_false (by first | assumption | omega) | exact congrArg (!·) (decide_eq_true (by first | assumption | omega)) | exact congrArg (!·) (show _ = true by assumption) | rfl)) ?_)
               | (refine Idx.mk ⟨_, rfl, by first | assumption | omega, ?_⟩)
               | (refine Idx.mk ⟨0, rfl, by omega, ?_⟩)
               | (refine DrawOb.start ?_)
               | (refine TryF.fast rfl (by decide +kernel) (by kernel_rfl) ?_)
               | (refine TryF.next rfl ?_)
               | (refine TryF.other ?_)
               | (refine TryG.go rfl (by decide +kernel) (by kernel_rfl) ?_)
               | (refine TryG.next rfl ?_)
               | (refine Sp.call (s0) (ArgsLe.refl _) rfl (AvLe.refl _) ?_)
               | (refine Sp.call (s1) (ArgsLe.refl _) rfl (AvLe.refl _) ?_)
               | (refine Sp.call (s2) (ArgsLe.refl _) rfl (AvLe.refl _) ?_)
               | (refine Sp.call (s3) (ArgsLe.refl _) rfl (AvLe.refl _) ?_)
               | (refine Sp.call (s4) (ArgsLe.refl _) rfl (AvLe.refl _) ?_)
               | (refine Sp.call (s5) (ArgsLe.refl _) rfl (AvLe.refl _) ?_))
    refine ⟨⟨_, _, rfl, rfl, ?_⟩⟩
    exact AvLe.bool dte
  · have s2 := cuspS_bad I G N2 N3 C R M K h
    have s3 := modS_bad I G N2 N3 C R M K h
    obtain ⟨e, he⟩ : ∃ e, e = csig I G N2 N3 C R M K := ⟨_, rfl⟩
    rw [← he] at s1 s2 s3 h
    clear he
    refine fn_sp (C := CX) [] [] tysX_ok mixed Tryd.func5 rfl (by kernel_rfl) Tryd.ntmps5 rfl rfl ?_
    repeat' (conv => whnf
             first
               | (refine Ob.mk (by (first | omega | (simp only [InK]; omega) | exact ⟨by omega, tdivIn (by omega) (by omega)⟩ | exact ⟨by first | omega | (simp only [InK]; omega), by first | omega | (simp only [InK]; omega)⟩)) ?_)
               | (refine Cases.yes (by (first | assumption | exact decide_eq_true (by first | assumption | omega) | exact congrArg (!·) (decide_eq_false (by first | assumption | omega)) | exact congrArg (!·) (show _ = false by assumption) | rfl)) ?_)
               | (refine Cases.no (by (first | assumption | exact decide_eq_false (by first | assumption | omega) | exact congrArg (!·) (decide_eq_true (by first | assumption | omega)) | exact congrArg (!·) (show _ = true by assumption) | rfl)) ?_)
               | (refine Idx.mk ⟨_, rfl, by first | assumption | omega, ?_⟩)
               | (refine Idx.mk ⟨0, rfl, by omega, ?_⟩)
               | (refine DrawOb.start ?_)
               | (refine TryF.fast rfl (by decide +kernel) (by kernel_rfl) ?_)
               | (refine TryF.next rfl ?_)
               | (refine TryF.other ?_)
               | (refine TryG.go rfl (by decide +kernel) (by kernel_rfl) ?_)
               | (refine TryG.next rfl ?_)
               | (refine Sp.call (s0) (ArgsLe.refl _) rfl (AvLe.refl _) ?_)
               | (refine Sp.call (s1) (ArgsLe.refl _) rfl (AvLe.refl _) ?_)
               | (refine Sp.call (s2) (ArgsLe.refl _) rfl (AvLe.refl _) ?_)
               | (refine Sp.call (s3) (ArgsLe.refl _) rfl (AvLe.refl _) ?_))
    refine ⟨⟨_, _, rfl, rfl, ?_⟩⟩
    exact AvLe.bool rfl
set_option maxHeartbeats 4000000 in
theorem law_genus (n : Int) : Sp CX 8 [int .i64 n] (bool true) := by
  have s0 := awake_sp
  by_cases h : 1 ≤ n ∧ n ≤ 120
  · obtain ⟨m, rfl⟩ := Int.eq_ofNat_of_zero_le (a := n) (by omega)
    have ok : DOk m 2 1 := by
      have := psi_small (n := m) (by omega) (by omega)
      exact ⟨by omega, by omega, by omega, by omega, by omega, by omega, by omega, by omega, .inl rfl, Nat.one_dvd m, by omega, by omega⟩
    have s1 := cusp_ok m 2 1 ok
    have s2 := eisen_ok m 2 1 ok
    have s3 := form0_ok m ok.n0 ok.n1
    obtain ⟨e1, e2⟩ := gen_eq ok.n0 ok.n1
    have b := cspS_bd ok.n0 ok.n1 (dvs m).length
    rw [List.take_length] at b
    have b : -15000 ≤ cspN m ∧ cspN m ≤ 15000 := b
    rw [e1] at s1
    rw [show (lam (1 : Int).natAbs m - if (2 = 2 ∧ (1 : Int).natAbs = 1) then 1 else 0) = lam 1 m - 1 from rfl, e2] at s2
    obtain ⟨x, hx⟩ : ∃ x, x = cspN m := ⟨_, rfl⟩
    rw [← hx] at s1 s2 s3 b
    clear e1 e2 ok h hx
    refine fn_sp (C := CX) [] [] tysX_ok mixed Tryd.func8 rfl (by kernel_rfl) Tryd.ntmps8 rfl rfl ?_
    repeat' (conv => whnf
             first
               | (refine Ob.mk (by (first | omega | (simp only [InK]; omega) | exact ⟨by omega, tdivIn (by omega) (by omega)⟩ | exact ⟨by first | omega | (simp only [InK]; omega), by first | omega | (simp only [InK]; omega)⟩)) ?_)
               | (refine Cases.yes (by (first | assumption | exact decide_eq_true (by first | assumption | omega) | exact congrArg (!·) (decide_eq_false (by first | assumption | omega)) | exact congrArg (!·) (show _ = false by assumption) | rfl)) ?_)
               | (refine Cases.no (by (first | assumption | exact decide_eq_false (by first | assumption | omega) | exact congrArg (!·) (decide_eq_true (by first | assumption | omega)) | exact congrArg (!·) (show _ = true by assumption) | rfl)) ?_)
               | (refine Idx.mk ⟨_, rfl, by first | assumption | omega, ?_⟩)
               | (refine Idx.mk ⟨0, rfl, by omega, ?_⟩)
               | (refine DrawOb.start ?_)
               | (refine TryF.fast rfl (by decide +kernel) (by kernel_rfl) ?_)
               | (refine TryF.next rfl ?_)
               | (refine TryF.other ?_)
               | (refine TryG.go rfl (by decide +kernel) (by kernel_rfl) ?_)
               | (refine TryG.next rfl ?_)
               | (refine Sp.call (s0) (ArgsLe.refl _) rfl (AvLe.refl _) ?_)
               | (refine Sp.call (s1) (ArgsLe.refl _) rfl (AvLe.refl _) ?_)
               | (refine Sp.call (s2) (ArgsLe.refl _) rfl (AvLe.refl _) ?_)
               | (refine Sp.call (s3) (ArgsLe.refl _) rfl (AvLe.refl _) ?_))
    refine ⟨⟨_, _, rfl, rfl, ?_⟩⟩
    exact AvLe.bool dte
  · have hc : dchk n 2 1 = 2 := dchk_range (by omega)
    have s1 := cusp_bad n 2 1 (by omega)
    have s2 := eisen_bad n 2 1 (by omega)
    have s3 := form0_bad n h
    rw [hc] at s1 s2
    clear hc h
    refine fn_sp (C := CX) [] [] tysX_ok mixed Tryd.func8 rfl (by kernel_rfl) Tryd.ntmps8 rfl rfl ?_
    repeat' (conv => whnf
             first
               | (refine Ob.mk (by (first | omega | (simp only [InK]; omega) | exact ⟨by omega, tdivIn (by omega) (by omega)⟩ | exact ⟨by first | omega | (simp only [InK]; omega), by first | omega | (simp only [InK]; omega)⟩)) ?_)
               | (refine Cases.yes (by (first | assumption | exact decide_eq_true (by first | assumption | omega) | exact congrArg (!·) (decide_eq_false (by first | assumption | omega)) | exact congrArg (!·) (show _ = false by assumption) | rfl)) ?_)
               | (refine Cases.no (by (first | assumption | exact decide_eq_false (by first | assumption | omega) | exact congrArg (!·) (decide_eq_true (by first | assumption | omega)) | exact congrArg (!·) (show _ = true by assumption) | rfl)) ?_)
               | (refine Idx.mk ⟨_, rfl, by first | assumption | omega, ?_⟩)
               | (refine Idx.mk ⟨0, rfl, by omega, ?_⟩)
               | (refine DrawOb.start ?_)
               | (refine TryF.fast rfl (by decide +kernel) (by kernel_rfl) ?_)
               | (refine TryF.next rfl ?_)
               | (refine TryF.other ?_)
               | (refine TryG.go rfl (by decide +kernel) (by kernel_rfl) ?_)
               | (refine TryG.next rfl ?_)
               | (refine Sp.call (s0) (ArgsLe.refl _) rfl (AvLe.refl _) ?_)
               | (refine Sp.call (s1) (ArgsLe.refl _) rfl (AvLe.refl _) ?_)
               | (refine Sp.call (s2) (ArgsLe.refl _) rfl (AvLe.refl _) ?_)
               | (refine Sp.call (s3) (ArgsLe.refl _) rfl (AvLe.refl _) ?_))
    refine ⟨⟨_, _, rfl, rfl, ?_⟩⟩
    exact AvLe.bool rfl
set_option maxHeartbeats 4000000 in
theorem law_signature (n k : Int) : Sp CX 9 [int .i64 n, int .i64 k] (bool true) := by
  have s0 := awake_sp
  by_cases h : dchk n k 1 = 0
  · obtain ⟨m, q, rfl, rfl, ok⟩ := dchk_out h
    have s1 := cusp_ok m q 1 ok
    have s2 := modular_ok m q 1 ok
    have s3 := form0_ok m ok.n0 ok.n1
    obtain ⟨e1, e2, e3⟩ := sig_eq ok
    have s4 := cuspSm_sp _ _ _ _ _ _ _ _ e1
    have s5 := modSm_sp _ _ _ _ _ _ _ _ e1
    rw [e2] at s1
    rw [e3] at s2
    clear e1 e2 e3 h ok
    refine fn_sp (C := CX) [] [] tysX_ok mixed Tryd.func9 rfl (by kernel_rfl) Tryd.ntmps9 rfl rfl ?_
    repeat' (conv => whnf
             first
               | (refine Ob.mk (by (first | omega | (simp only [InK]; omega) | exact ⟨by omega, tdivIn (by omega) (by omega)⟩ | exact ⟨by first | omega | (simp only [InK]; omega), by first | omega | (simp only [InK]; omega)⟩)) ?_)
               | (refine Cases.yes (by (first | assumption | exact decide_eq_true (by first | assumption | omega) | exact congrArg (!·) (decide_eq_false (by first | assumption | omega)) | exact congrArg (!·) (show _ = false by assumption) | rfl)) ?_)
               | (refine Cases.no (by (first | assumption | exact decide_eq_false (by first | assumption | omega) | exact congrArg (!·) (decide_eq_true (by first | assumption | omega)) | exact congrArg (!·) (show _ = true by assumption) | rfl)) ?_)
               | (refine Idx.mk ⟨_, rfl, by first | assumption | omega, ?_⟩)
               | (refine Idx.mk ⟨0, rfl, by omega, ?_⟩)
               | (refine DrawOb.start ?_)
               | (refine TryF.fast rfl (by decide +kernel) (by kernel_rfl) ?_)
               | (refine TryF.next rfl ?_)
               | (refine TryF.other ?_)
               | (refine TryG.go rfl (by decide +kernel) (by kernel_rfl) ?_)
               | (refine TryG.next rfl ?_)
               | (refine Sp.call (s0) (ArgsLe.refl _) rfl (AvLe.refl _) ?_)
               | (refine Sp.call (s1) (ArgsLe.refl _) rfl (AvLe.refl _) ?_)
               | (refine Sp.call (s2) (ArgsLe.refl _) rfl (AvLe.refl _) ?_)
               | (refine Sp.call (s3) (ArgsLe.refl _) rfl (AvLe.refl _) ?_)
               | (refine Sp.call (s4) (ArgsLe.refl _) rfl (AvLe.refl _) ?_)
               | (refine Sp.call (s5) (ArgsLe.refl _) rfl (AvLe.refl _) ?_))
    refine ⟨⟨_, _, rfl, rfl, ?_⟩⟩
    exact AvLe.bool dte
  · have s1 := cusp_bad n k 1 h
    have s2 := modular_bad n k 1 h
    obtain ⟨e, he⟩ : ∃ e, e = dchk n k 1 := ⟨_, rfl⟩
    rw [← he] at s1 s2 h
    clear he
    refine fn_sp (C := CX) [] [] tysX_ok mixed Tryd.func9 rfl (by kernel_rfl) Tryd.ntmps9 rfl rfl ?_
    repeat' (conv => whnf
             first
               | (refine Ob.mk (by (first | omega | (simp only [InK]; omega) | exact ⟨by omega, tdivIn (by omega) (by omega)⟩ | exact ⟨by first | omega | (simp only [InK]; omega), by first | omega | (simp only [InK]; omega)⟩)) ?_)
               | (refine Cases.yes (by (first | assumption | exact decide_eq_true (by first | assumption | omega) | exact congrArg (!·) (decide_eq_false (by first | assumption | omega)) | exact congrArg (!·) (show _ = false by assumption) | rfl)) ?_)
               | (refine Cases.no (by (first | assumption | exact decide_eq_false (by first | assumption | omega) | exact congrArg (!·) (decide_eq_true (by first | assumption | omega)) | exact congrArg (!·) (show _ = true by assumption) | rfl)) ?_)
               | (refine Idx.mk ⟨_, rfl, by first | assumption | omega, ?_⟩)
               | (refine Idx.mk ⟨0, rfl, by omega, ?_⟩)
               | (refine DrawOb.start ?_)
               | (refine TryF.fast rfl (by decide +kernel) (by kernel_rfl) ?_)
               | (refine TryF.next rfl ?_)
               | (refine TryF.other ?_)
               | (refine TryG.go rfl (by decide +kernel) (by kernel_rfl) ?_)
               | (refine TryG.next rfl ?_)
               | (refine Sp.call (s0) (ArgsLe.refl _) rfl (AvLe.refl _) ?_)
               | (refine Sp.call (s1) (ArgsLe.refl _) rfl (AvLe.refl _) ?_)
               | (refine Sp.call (s2) (ArgsLe.refl _) rfl (AvLe.refl _) ?_))
    refine ⟨⟨_, _, rfl, rfl, ?_⟩⟩
    exact AvLe.bool dte
set_option maxHeartbeats 4000000 in
theorem law_one (k : Int) : Sp CX 6 [int .i64 k] (bool true) := by
  have s0 := awake_sp
  by_cases h : dchk 1 k 1 = 0
  · obtain ⟨m, q, hm, rfl, ok⟩ := dchk_out h
    obtain rfl : m = 1 := by omega
    have s1 := modular_ok 1 q 1 ok
    have e := one_eq ok
    rw [e] at s1
    have e12 : (q : Int).tmod 12 = ((q % 12 : Nat) : Int) := (Int.ofNat_tmod q 12).symm
    have d12 : (q : Int).tdiv 12 = ((q / 12 : Nat) : Int) := (Int.ofNat_tdiv q 12).symm
    have hq := ok.k1
    clear e h ok
    refine fn_sp (C := CX) [] [] tysX_ok mixed Tryd.func6 rfl (by kernel_rfl) Tryd.ntmps6 rfl rfl ?_
    by_cases c : q % 12 = 2
    · rw [if_pos c] at s1
      repeat' (conv => whnf
               first
                 | (refine Ob.mk (by (first | omega | (simp only [InK]; omega) | exact ⟨by omega, tdivIn (by omega) (by omega)⟩ | exact ⟨by first | omega | (simp only [InK]; omega), by first | omega | (simp only [InK]; omega)⟩)) ?_)
                 | (refine Cases.yes (by (first | assumption | exact decide_eq_true (by first | assumption | omega) | exact congrArg (!·) (decide_eq_false (by first | assumption | omega)) | exact congrArg (!·) (show _ = false by assumption) | rfl)) ?_)
                 | (refine Cases.no (by (first | assumption | exact decide_eq_false (by first | assumption | omega) | exact congrArg (!·) (decide_eq_true (by first | assumption | omega)) | exact congrArg (!·) (show _ = true by assumption) | rfl)) ?_)
                 | (refine Idx.mk ⟨_, rfl, by first | assumption | omega, ?_⟩)
                 | (refine Idx.mk ⟨0, rfl, by omega, ?_⟩)
                 | (refine DrawOb.start ?_)
                 | (refine TryF.fast rfl (by decide +kernel) (by kernel_rfl) ?_)
                 | (refine TryF.next rfl ?_)
                 | (refine TryF.other ?_)
                 | (refine TryG.go rfl (by decide +kernel) (by kernel_rfl) ?_)
                 | (refine TryG.next rfl ?_)
                 | (refine Sp.call (s0) (ArgsLe.refl _) rfl (AvLe.refl _) ?_)
                 | (refine Sp.call (s1) (ArgsLe.refl _) rfl (AvLe.refl _) ?_))
      refine ⟨⟨_, _, rfl, rfl, ?_⟩⟩
      exact AvLe.bool (decide_eq_true d12.symm)
    · rw [if_neg c] at s1
      repeat' (conv => whnf
               first
                 | (refine Ob.mk (by (first | omega | (simp only [InK]; omega) | exact ⟨by omega, tdivIn (by omega) (by omega)⟩ | exact ⟨by first | omega | (simp only [InK]; omega), by first | omega | (simp only [InK]; omega)⟩)) ?_)
                 | (refine Cases.yes (by (first | assumption | exact decide_eq_true (by first | assumption | omega) | exact congrArg (!·) (decide_eq_false (by first | assumption | omega)) | exact congrArg (!·) (show _ = false by assumption) | rfl)) ?_)
                 | (refine Cases.no (by (first | assumption | exact decide_eq_false (by first | assumption | omega) | exact congrArg (!·) (decide_eq_true (by first | assumption | omega)) | exact congrArg (!·) (show _ = true by assumption) | rfl)) ?_)
                 | (refine Idx.mk ⟨_, rfl, by first | assumption | omega, ?_⟩)
                 | (refine Idx.mk ⟨0, rfl, by omega, ?_⟩)
                 | (refine DrawOb.start ?_)
                 | (refine TryF.fast rfl (by decide +kernel) (by kernel_rfl) ?_)
                 | (refine TryF.next rfl ?_)
                 | (refine TryF.other ?_)
                 | (refine TryG.go rfl (by decide +kernel) (by kernel_rfl) ?_)
                 | (refine TryG.next rfl ?_)
                 | (refine Sp.call (s0) (ArgsLe.refl _) rfl (AvLe.refl _) ?_)
                 | (refine Sp.call (s1) (ArgsLe.refl _) rfl (AvLe.refl _) ?_))
      refine ⟨⟨_, _, rfl, rfl, ?_⟩⟩
      exact AvLe.bool (decide_eq_true (by omega))
  · have s1 := modular_bad 1 k 1 h
    by_cases r : k < 2 ∨ 24 < k
    · rw [dchk_range (by omega)] at s1
      clear h
      refine fn_sp (C := CX) [] [] tysX_ok mixed Tryd.func6 rfl (by kernel_rfl) Tryd.ntmps6 rfl rfl ?_
      repeat' (conv => whnf
               first
                 | (refine Ob.mk (by (first | omega | (simp only [InK]; omega) | exact ⟨by omega, tdivIn (by omega) (by omega)⟩ | exact ⟨by first | omega | (simp only [InK]; omega), by first | omega | (simp only [InK]; omega)⟩)) ?_)
                 | (refine Cases.yes (by (first | assumption | exact decide_eq_true (by first | assumption | omega) | exact congrArg (!·) (decide_eq_false (by first | assumption | omega)) | exact congrArg (!·) (show _ = false by assumption) | rfl)) ?_)
                 | (refine Cases.no (by (first | assumption | exact decide_eq_false (by first | assumption | omega) | exact congrArg (!·) (decide_eq_true (by first | assumption | omega)) | exact congrArg (!·) (show _ = true by assumption) | rfl)) ?_)
                 | (refine Idx.mk ⟨_, rfl, by first | assumption | omega, ?_⟩)
                 | (refine Idx.mk ⟨0, rfl, by omega, ?_⟩)
                 | (refine DrawOb.start ?_)
                 | (refine TryF.fast rfl (by decide +kernel) (by kernel_rfl) ?_)
                 | (refine TryF.next rfl ?_)
                 | (refine TryF.other ?_)
                 | (refine TryG.go rfl (by decide +kernel) (by kernel_rfl) ?_)
                 | (refine TryG.next rfl ?_)
                 | (refine Sp.call (s0) (ArgsLe.refl _) rfl (AvLe.refl _) ?_)
                 | (refine Sp.call (s1) (ArgsLe.refl _) rfl (AvLe.refl _) ?_))
      refine ⟨⟨_, _, rfl, rfl, ?_⟩⟩
      exact AvLe.bool rfl
    · have hk : k % 2 = 1 := by
        apply Decidable.byContradiction
        intro hk
        apply h
        refine dchk_ok (by omega) (.inl rfl) (by decide) (by omega) ?_
        rw [show (1 : Int).toNat = 1 from rfl, psi_C (by omega) (by omega), show prodC psiF 1 = 1 by decide +kernel]
        omega
      rw [dchk_par (by omega) (.inl rfl) (by decide) (by omega)] at s1
      have ek : k.tmod 2 = k % 2 := Int.tmod_eq_emod_of_nonneg (by omega)
      clear h
      refine fn_sp (C := CX) [] [] tysX_ok mixed Tryd.func6 rfl (by kernel_rfl) Tryd.ntmps6 rfl rfl ?_
      repeat' (conv => whnf
               first
                 | (refine Ob.mk (by (first | omega | (simp only [InK]; omega) | exact ⟨by omega, tdivIn (by omega) (by omega)⟩ | exact ⟨by first | omega | (simp only [InK]; omega), by first | omega | (simp only [InK]; omega)⟩)) ?_)
                 | (refine Cases.yes (by (first | assumption | exact decide_eq_true (by first | assumption | omega) | exact congrArg (!·) (decide_eq_false (by first | assumption | omega)) | exact congrArg (!·) (show _ = false by assumption) | rfl)) ?_)
                 | (refine Cases.no (by (first | assumption | exact decide_eq_false (by first | assumption | omega) | exact congrArg (!·) (decide_eq_true (by first | assumption | omega)) | exact congrArg (!·) (show _ = true by assumption) | rfl)) ?_)
                 | (refine Idx.mk ⟨_, rfl, by first | assumption | omega, ?_⟩)
                 | (refine Idx.mk ⟨0, rfl, by omega, ?_⟩)
                 | (refine DrawOb.start ?_)
                 | (refine TryF.fast rfl (by decide +kernel) (by kernel_rfl) ?_)
                 | (refine TryF.next rfl ?_)
                 | (refine TryF.other ?_)
                 | (refine TryG.go rfl (by decide +kernel) (by kernel_rfl) ?_)
                 | (refine TryG.next rfl ?_)
                 | (refine Sp.call (s0) (ArgsLe.refl _) rfl (AvLe.refl _) ?_)
                 | (refine Sp.call (s1) (ArgsLe.refl _) rfl (AvLe.refl _) ?_))
      refine ⟨⟨_, _, rfl, rfl, ?_⟩⟩
      exact AvLe.bool (by rw [ek, hk]; rfl)
end Go.Proofs.YteamlpflgfmieaaDoor

/- The law of the old forms. -/
namespace Go.Proofs.YteamlpflgfmieaaDoor
open Go Go.RowKit Go.VG HP
theorem sumG_add (G H : Nat → Int) : ∀ l : List Nat, sumG (fun x => G x + H x) l = sumG G l + sumG H l
  | [] => rfl
  | x :: l => by rw [sumG, sumG, sumG, sumG_add G H l]; omega
theorem sumG_zero : ∀ l : List Nat, sumG (fun _ => 0) l = 0
  | [] => rfl
  | _ :: l => by rw [sumG, sumG_zero l]; rfl
theorem sumG_smul (c : Int) (G : Nat → Int) : ∀ l : List Nat, sumG (fun x => c * G x) l = c * sumG G l
  | [] => by rw [sumG, sumG, Int.mul_zero]
  | x :: l => by rw [sumG, sumG, sumG_smul c G l, Int.mul_add]
theorem sumG_swap (H : Nat → Nat → Int) (l2 : List Nat) : ∀ l1 : List Nat, sumG (fun j => sumG (fun d => H j d) l2) l1 = sumG (fun d => sumG (fun j => H j d) l1) l2
  | [] => by
    show (0 : Int) = sumG (fun _ => 0) l2
    rw [sumG_zero]
  | x :: l1 => by
    have e : (fun d => sumG (fun j => H j d) (x :: l1)) = fun d => H x d + sumG (fun j => H j d) l1 := rfl
    rw [e, sumG_add, sumG, sumG_swap H l2 l1]
theorem sumG_filter (G : Nat → Int) (p : Nat → Bool) : ∀ l : List Nat, sumG G (l.filter p) = sumG (fun d => if p d then G d else 0) l
  | [] => rfl
  | x :: l => by
    rw [List.filter_cons, sumG]
    cases h : p x with
    | true => simp only [if_true]; rw [sumG, sumG_filter G p l]
    | false => simp only [Bool.false_eq_true, if_false]; rw [sumG_filter G p l, Int.zero_add]
theorem dvs_sub {n j : Nat} (hn : 0 < n) (hj : j ∣ n) (G : Nat → Int) : sumG G (dvs j) = sumG (fun d => if decide (j % d = 0) then G d else 0) (dvs n) := by
  have hj0 := Nat.pos_of_dvd_of_pos hj hn
  rw [← sumG_filter G (fun d => decide (j % d = 0))]
  refine sumG_perm G ((List.perm_ext_iff_of_nodup (dvs_nodup j) ((dvs_nodup n).filter _)).2 fun x => ?_)
  rw [List.mem_filter, dvs_mem hj0, dvs_mem hn, decide_eq_true_iff, ← Nat.dvd_iff_mod_eq_zero]
  exact ⟨fun h => ⟨Nat.dvd_trans h hj, h⟩, fun h => h.2⟩
/-- the divisors of n, counted, against beta -/
def conv (n d : Nat) : Int := sumG (fun j => if j % d = 0 then ((dvs (n / j)).length : Int) * prodC betF (j / d) else 0) (dvs n)
set_option maxRecDepth 100000 in
theorem conv_chk : allB 121 (fun n => (dvs n).all fun d => decide (conv n d = if d = n then 1 else 0)) = true := by decide +kernel
theorem sumG_one {n : Nat} (G : Nat → Int) : ∀ l : List Nat, l.Nodup → n ∈ l → sumG (fun d => (if d = n then 1 else 0) * G d) l = G n
  | [], _, h => by cases h
  | x :: l, hd, h => by
    rw [List.nodup_cons] at hd
    rw [sumG]
    by_cases hx : x = n
    · subst hx
      have : sumG (fun d => (if d = x then 1 else 0) * G d) l = sumG (fun _ => 0) l := sumG_congr l fun y hy => by
        have hne : y ≠ x := fun e => hd.1 (e ▸ hy)
        rw [if_neg hne, Int.zero_mul]
      rw [this, sumG_zero, if_pos rfl, Int.one_mul, Int.add_zero]
    · rw [if_neg hx, Int.zero_mul, Int.zero_add]
      exact sumG_one G l hd.2 (by
        rcases List.mem_cons.1 h with e | e
        · exact absurd e.symm hx
        · exact e)
/-- the sum over all divisors -/
theorem old_sum {n : Nat} (h1 : 1 ≤ n) (h2 : n ≤ 120) (C : Nat → Int) : sumG (fun j => ((dvs (n / j)).length : Int) * sumG (fun d => bet (j / d) * C d) (dvs j)) (dvs n) = C n := by
  have e1 : sumG (fun j => ((dvs (n / j)).length : Int) * sumG (fun d => bet (j / d) * C d) (dvs j)) (dvs n) = sumG (fun j => sumG (fun d => (if j % d = 0 then ((dvs (n / j)).length : Int) * prodC betF (j / d) else 0) * C d) (dvs n)) (dvs n) := sumG_congr _ fun j hj => by
    have hj := (dvs_mem h1).1 hj
    have hj1 := Nat.pos_of_dvd_of_pos hj h1
    have hj2 := Nat.le_of_dvd h1 hj
    rw [dvs_sub h1 hj, ← sumG_smul]
    refine sumG_congr _ fun d hd => ?_
    have hd := (dvs_mem h1).1 hd
    have hd1 := Nat.pos_of_dvd_of_pos hd h1
    by_cases hz : j % d = 0
    · have hle := Nat.le_of_dvd hj1 (Nat.dvd_of_mod_eq_zero hz)
      rw [if_pos (by simpa using hz), if_pos hz, bet_C (Nat.div_pos hle hd1) (Nat.le_trans (Nat.div_le_self j d) (by omega)), Int.mul_assoc]
    · rw [if_neg (by simpa using hz), if_neg hz, Int.mul_zero, Int.zero_mul]
  rw [e1, sumG_swap]
  have e2 : sumG (fun d => sumG (fun j => (if j % d = 0 then ((dvs (n / j)).length : Int) * prodC betF (j / d) else 0) * C d) (dvs n)) (dvs n) = sumG (fun d => (if d = n then 1 else 0) * C d) (dvs n) := sumG_congr _ fun d hd => by
    have h := allB_at conv_chk (show n < 121 by omega)
    have h := of_decide_eq_true (List.all_eq_true.1 h d hd)
    rw [← h]
    unfold conv
    have : (fun j => (if j % d = 0 then ((dvs (n / j)).length : Int) * prodC betF (j / d) else 0) * C d) = fun j => C d * (if j % d = 0 then ((dvs (n / j)).length : Int) * prodC betF (j / d) else 0) := funext fun j => Int.mul_comm _ _
    rw [this, sumG_smul, Int.mul_comm]
  rw [e2, sumG_one C _ (dvs_nodup n) ((dvs_mem h1).2 (Nat.dvd_refl n))]
/-- what a level gives to the old forms of level n -/
def oldG (n k : Nat) (D : Int) (j : Nat) : Int := if n % j = 0 ∧ D.natAbs ∣ j then newV j k D * ((dvs (n / j)).length : Int) else 0
def oldS (n k : Nat) (D : Int) : Nat → Int
  | 0 => 0
  | m + 1 => oldS n k D m + oldG n k D (m + 1)
theorem oldS_range (n k : Nat) (D : Int) : ∀ m, oldS n k D m = sumG (fun j => if 0 < j then oldG n k D j else 0) (List.range (m + 1))
  | 0 => by simp [oldS, sumG, List.range_succ]
  | m + 1 => by
    rw [oldS, oldS_range n k D m, List.range_succ (n := m + 1), sumG_append]
    congr 1
    show _ = (if 0 < m + 1 then oldG n k D (m + 1) else 0) + 0
    rw [if_pos (by omega), Int.add_zero]
theorem newV_zero {j k : Nat} {D : Int} (hj : 1 ≤ j) (h : ¬ D.natAbs ∣ j) : newV j k D = 0 := by
  unfold newV
  rw [← sumG_zero (dvs j)]
  refine sumG_congr _ fun d hd => ?_
  unfold newG
  rw [if_neg fun hx => h (Nat.dvd_trans hx ((dvs_mem hj).1 hd))]
theorem old_eq {n k : Nat} {D : Int} (h1 : 1 ≤ n) (h2 : n ≤ 120) (hd : D.natAbs ∣ n) : oldS n k D n = cuspV n k D := by
  have h := old_sum h1 h2 (fun d => if D.natAbs ∣ d then cuspV d k D else 0)
  simp only [if_pos hd] at h
  rw [oldS_range, ← h]
  have e : dvs n = (List.range (n + 1)).filter (isDv n) := rfl
  rw [e, sumG_filter]
  refine sumG_congr _ fun j hj => ?_
  by_cases hj0 : 0 < j
  · rw [if_pos hj0]
    unfold oldG
    by_cases hz : n % j = 0
    · have hdv : isDv n j = true := isDv_iff.2 ⟨hj0, Nat.dvd_of_mod_eq_zero hz⟩
      have en : newV j k D = sumG (fun d => bet (j / d) * if D.natAbs ∣ d then cuspV d k D else 0) (dvs j) := by
        unfold newV
        refine sumG_congr _ fun d _ => ?_
        unfold newG
        split
        · rfl
        · rw [Int.mul_zero]
      rw [hdv, if_pos rfl, ← en]
      by_cases hD : D.natAbs ∣ j
      · rw [if_pos ⟨hz, hD⟩, Int.mul_comm]
      · rw [if_neg fun x => hD x.2, newV_zero hj0 hD, Int.mul_zero]
    · have hdv : isDv n j = false := by
        rw [Bool.eq_false_iff]
        intro x
        exact hz (Nat.mod_eq_zero_of_dvd (isDv_iff.1 x).2)
      rw [hdv, if_neg fun x => hz x.1, if_neg (by simp)]
  · rw [if_neg hj0, show isDv n j = false by simp [isDv, hj0], if_neg (by simp)]
theorem oldG_bd {n k j : Nat} {D : Int} (h : DOk n k D) (hj : 1 ≤ j) : 0 ≤ oldG n k D j ∧ oldG n k D j ≤ 96800000 * 121 := by
  unfold oldG
  split
  · next hc =>
    have hdv := Nat.dvd_of_mod_eq_zero hc.1
    have hle := Nat.le_of_dvd h.n0 hdv
    have h1 := new_pos (h.down hdv hc.2)
    have h2 := newS_bd D (n := j) (k := k) hj (by have := h.n1; omega) (by have := h.k0; omega) h.k1 (dvs j).length
    rw [List.take_length] at h2
    have h2 : newV j k D ≤ 96800000 := h2.2
    have hl : (dvs (n / j)).length ≤ n / j + 1 := by
      unfold dvs
      exact Nat.le_trans (List.length_filter_le _ _) (by simp)
    have := Nat.div_le_self n j
    have := h.n1
    exact ⟨Int.mul_nonneg h1 (by omega), Int.mul_le_mul h2 (by omega) (by omega) (by omega)⟩
  · omega
theorem oldS_bd {n k : Nat} {D : Int} (h : DOk n k D) : ∀ m : Nat, 0 ≤ oldS n k D m ∧ oldS n k D m ≤ 96800000 * 121 * m
  | 0 => by simp [oldS]
  | m + 1 => by
    have h1 := oldS_bd h m
    have h2 := oldG_bd h (show 1 ≤ m + 1 by omega)
    rw [oldS]
    omega
set_option maxHeartbeats 4000000 in
theorem law_old (L K D : Int) : Sp CX 4 [specA L K D] (bool true) := by
  have s0 := awake_sp
  by_cases h : dchk L K D = 0
  · obtain ⟨n, k, rfl, rfl, ok⟩ := dchk_out h
    have s1 := cusp_ok n k D ok
    have he := old_eq (k := k) ok.n0 ok.n1 ok.dvd
    have hn := ok.n1
    rw [← he] at s1
    clear he h
    refine fn_sp (C := CX) [] [] tysX_ok mixed Tryd.func4 rfl (by kernel_rfl) Tryd.ntmps4 rfl rfl ?_
    repeat' (conv => whnf
             first
               | (refine Ob.mk (by (first | omega | (simp only [InK]; omega) | exact ⟨by omega, tdivIn (by omega) (by omega)⟩ | exact ⟨by first | omega | (simp only [InK]; omega), by first | omega | (simp only [InK]; omega)⟩)) ?_)
               | (refine Cases.yes (by (first | assumption | exact decide_eq_true (by first | assumption | omega) | exact congrArg (!·) (decide_eq_false (by first | assumption | omega)) | exact congrArg (!·) (show _ = false by assumption) | rfl)) ?_)
               | (refine Cases.no (by (first | assumption | exact decide_eq_false (by first | assumption | omega) | exact congrArg (!·) (decide_eq_true (by first | assumption | omega)) | exact congrArg (!·) (show _ = true by assumption) | rfl)) ?_)
               | (refine Idx.mk ⟨_, rfl, by first | assumption | omega, ?_⟩)
               | (refine Idx.mk ⟨0, rfl, by omega, ?_⟩)
               | (refine DrawOb.start ?_)
               | (refine TryF.fast rfl (by decide +kernel) (by kernel_rfl) ?_)
               | (refine TryF.next rfl ?_)
               | (refine TryF.other ?_)
               | (refine TryG.go rfl (by decide +kernel) (by kernel_rfl) ?_)
               | (refine TryG.next rfl ?_)
               | (refine Sp.call (s0) (ArgsLe.refl _) rfl (AvLe.refl _) ?_)
               | (refine Sp.call (s1) (ArgsLe.refl _) rfl (AvLe.refl _) ?_))
    refine ⟨⟨Nat × Int, fun (m, s) => ⟨[(1, .v (.c (.loc 0 0))), (3, int .i64 (oldS n k D n)), (5, int .i64 s), (6, int .i64 m)], [(0, .st [ix n, ix k, ix D])], 1⟩, fun (m, s) => 1 ≤ m ∧ m ≤ n + 1 ∧ s = oldS n k D (m - 1), fun (m, _) => n + 1 - m, ⟨(1, 0), [], ⟨Nat.le_refl _, by omega, rfl⟩, (by refine ⟨?_, ?_, rfl⟩ <;> repeat (first | exact TmE.nil | exact OwnE.nil | refine TmE.cons (by first | exact AvLe.refl _ | exact AvLe.int (by omega) | exact AvLe.bool (by first | rfl | assumption)) ?_ | refine OwnE.cons rfl (BlkLe.refl _) ?_ | refine OwnE.cons rfl BlkLe.zero ?_))⟩, ?_⟩⟩
    rintro ⟨m, s⟩ ⟨k1, k2, k3⟩
    have b1 := oldS_bd ok (m - 1)
    rw [← k3] at b1
    by_cases hd : m ≤ n
    · have hs : oldS n k D m = s + oldG n k D m := by
        rw [k3]
        obtain ⟨q, rfl⟩ : ∃ q, m = q + 1 := ⟨m - 1, by omega⟩
        rfl
      have hb := oldG_bd ok k1
      have em : (n : Int).tmod m = ((n % m : Nat) : Int) := (Int.ofNat_tmod n m).symm
      clear k3
      by_cases hz : n % m = 0
      · have dz := ok.dz
        by_cases c : D.natAbs ∣ m
        · have ct : (m : Int).tmod D = 0 := Int.tmod_eq_zero_of_dvd (by rw [← Int.natAbs_dvd_natAbs]; simpa using c)
          have hdv := Nat.dvd_of_mod_eq_zero hz
          have okm := ok.down hdv c
          have s2 := new_ok m k D okm
          have hp := new_pos okm
          have eo : oldG n k D m = newV m k D * ((dvs (n / m)).length : Int) := by unfold oldG; rw [if_pos ⟨hz, c⟩]
          rw [eo] at hs hb
          have hq1 : 0 < n / m := Nat.div_pos hd (by omega)
          have hq2 := Nat.div_le_self n m
          have dm : (n : Int).tdiv m = ((n / m : Nat) : Int) := (Int.ofNat_tdiv n m).symm
          obtain ⟨Z, len, hZ, hlen⟩ := zOf (dvs (n / m)) 0
          rw [← hlen] at hs hb
          have s3 := divisors20_sp (n / m) Z len (fun i x => hZ i x) hlen hq1 (by omega)
          have hl : len ≤ 121 := by
            rw [hlen]
            unfold dvs
            exact Nat.le_trans (List.length_filter_le _ _) (by simp; omega)
          have h2 := newS_bd D (n := m) (k := k) k1 (by omega) (by have := ok.k0; omega) ok.k1 (dvs m).length
          rw [List.take_length] at h2
          have h2 : newV m k D ≤ 96800000 := h2.2
          obtain ⟨x, hx⟩ : ∃ x, x = newV m k D := ⟨_, rfl⟩
          rw [← hx] at hs hb s2 hp h2
          obtain ⟨T, hT⟩ : ∃ T, T = oldS n k D n := ⟨_, rfl⟩
          rw [← hT]
          clear hT hx eo okm em hdv
          have em : (n : Int).tmod m = 0 := by rw [show (n : Int).tmod m = ((n % m : Nat) : Int) from (Int.ofNat_tmod n m).symm, hz]; rfl
          repeat' (conv => whnf
                   first
                     | (refine Ob.mk (by (first | omega | (simp only [InK]; omega) | exact ⟨by omega, tdivIn (by omega) (by omega)⟩ | exact ⟨by first | omega | (simp only [InK]; omega), by first | omega | (simp only [InK]; omega)⟩)) ?_)
                     | (refine Cases.yes (by (first | assumption | exact decide_eq_true (by first | assumption | omega) | exact congrArg (!·) (decide_eq_false (by first | assumption | omega)) | exact congrArg (!·) (show _ = false by assumption) | rfl)) ?_)
                     | (refine Cases.no (by (first | assumption | exact decide_eq_false (by first | assumption | omega) | exact congrArg (!·) (decide_eq_true (by first | assumption | omega)) | exact congrArg (!·) (show _ = true by assumption) | rfl)) ?_)
                     | (refine Idx.mk ⟨_, rfl, by first | assumption | omega, ?_⟩)
                     | (refine Idx.mk ⟨0, rfl, by omega, ?_⟩)
                     | (refine DrawOb.start ?_)
                     | (refine TryF.fast rfl (by decide +kernel) (by kernel_rfl) ?_)
                     | (refine TryF.next rfl ?_)
                     | (refine TryF.other ?_)
                     | (refine TryG.go rfl (by decide +kernel) (by kernel_rfl) ?_)
                     | (refine TryG.next rfl ?_)
                     | (refine Sp.call (s2) (ArgsLe.refl _) rfl (AvLe.refl _) ?_)
                     | (refine Sp.call (s3) (.cons (AvLe.int (by omega)) .nil) rfl (AvLe.refl _) ?_))
          exact ⟨(m + 1, s + x * len), [], ⟨by omega, by omega, hs.symm⟩, by show n + 1 - (m + 1) < n + 1 - m; omega, (by refine ⟨?_, ?_, rfl⟩ <;> repeat (first | exact TmE.nil | exact OwnE.nil | refine TmE.cons (by first | exact AvLe.refl _ | exact AvLe.int (by omega) | exact AvLe.bool (by first | rfl | assumption)) ?_ | refine OwnE.cons rfl (BlkLe.refl _) ?_ | refine OwnE.cons rfl BlkLe.zero ?_))⟩
        · have ct : (m : Int).tmod D ≠ 0 := fun h => c (by
            have := Int.dvd_of_tmod_eq_zero h
            rw [← Int.natAbs_dvd_natAbs] at this
            simpa using this)
          have eo : oldG n k D m = 0 := by unfold oldG; rw [if_neg fun x => c x.2]
          rw [eo, Int.add_zero] at hs
          repeat' (conv => whnf
                   first
                     | (refine Ob.mk (by (first | omega | (simp only [InK]; omega) | exact ⟨by omega, tdivIn (by omega) (by omega)⟩ | exact ⟨by first | omega | (simp only [InK]; omega), by first | omega | (simp only [InK]; omega)⟩)) ?_)
                     | (refine Cases.yes (by (first | assumption | exact decide_eq_true (by first | assumption | omega) | exact congrArg (!·) (decide_eq_false (by first | assumption | omega)) | exact congrArg (!·) (show _ = false by assumption) | rfl)) ?_)
                     | (refine Cases.no (by (first | assumption | exact decide_eq_false (by first | assumption | omega) | exact congrArg (!·) (decide_eq_true (by first | assumption | omega)) | exact congrArg (!·) (show _ = true by assumption) | rfl)) ?_)
                     | (refine Idx.mk ⟨_, rfl, by first | assumption | omega, ?_⟩)
                     | (refine Idx.mk ⟨0, rfl, by omega, ?_⟩)
                     | (refine DrawOb.start ?_)
                     | (refine TryF.fast rfl (by decide +kernel) (by kernel_rfl) ?_)
                     | (refine TryF.next rfl ?_)
                     | (refine TryF.other ?_)
                     | (refine TryG.go rfl (by decide +kernel) (by kernel_rfl) ?_)
                     | (refine TryG.next rfl ?_))
          exact ⟨(m + 1, s), [], ⟨by omega, by omega, hs.symm⟩, by show n + 1 - (m + 1) < n + 1 - m; omega, (by refine ⟨?_, ?_, rfl⟩ <;> repeat (first | exact TmE.nil | exact OwnE.nil | refine TmE.cons (by first | exact AvLe.refl _ | exact AvLe.int (by omega) | exact AvLe.bool (by first | rfl | assumption)) ?_ | refine OwnE.cons rfl (BlkLe.refl _) ?_ | refine OwnE.cons rfl BlkLe.zero ?_))⟩
      · have eo : oldG n k D m = 0 := by unfold oldG; rw [if_neg fun x => hz x.1]
        rw [eo, Int.add_zero] at hs
        repeat' (conv => whnf
                 first
                   | (refine Ob.mk (by (first | omega | (simp only [InK]; omega) | exact ⟨by omega, tdivIn (by omega) (by omega)⟩ | exact ⟨by first | omega | (simp only [InK]; omega), by first | omega | (simp only [InK]; omega)⟩)) ?_)
                   | (refine Cases.yes (by (first | assumption | exact decide_eq_true (by first | assumption | omega) | exact congrArg (!·) (decide_eq_false (by first | assumption | omega)) | exact congrArg (!·) (show _ = false by assumption) | rfl)) ?_)
                   | (refine Cases.no (by (first | assumption | exact decide_eq_false (by first | assumption | omega) | exact congrArg (!·) (decide_eq_true (by first | assumption | omega)) | exact congrArg (!·) (show _ = true by assumption) | rfl)) ?_)
                   | (refine Idx.mk ⟨_, rfl, by first | assumption | omega, ?_⟩)
                   | (refine Idx.mk ⟨0, rfl, by omega, ?_⟩)
                   | (refine DrawOb.start ?_)
                   | (refine TryF.fast rfl (by decide +kernel) (by kernel_rfl) ?_)
                   | (refine TryF.next rfl ?_)
                   | (refine TryF.other ?_)
                   | (refine TryG.go rfl (by decide +kernel) (by kernel_rfl) ?_)
                   | (refine TryG.next rfl ?_))
        exact ⟨(m + 1, s), [], ⟨by omega, by omega, hs.symm⟩, by show n + 1 - (m + 1) < n + 1 - m; omega, (by refine ⟨?_, ?_, rfl⟩ <;> repeat (first | exact TmE.nil | exact OwnE.nil | refine TmE.cons (by first | exact AvLe.refl _ | exact AvLe.int (by omega) | exact AvLe.bool (by first | rfl | assumption)) ?_ | refine OwnE.cons rfl (BlkLe.refl _) ?_ | refine OwnE.cons rfl BlkLe.zero ?_))⟩
    · obtain rfl : m = n + 1 := by omega
      have k3 : s = oldS n k D n := k3
      rw [← k3]
      clear k3
      repeat' (conv => whnf
               first
                 | (refine Ob.mk (by (first | omega | (simp only [InK]; omega) | exact ⟨by omega, tdivIn (by omega) (by omega)⟩ | exact ⟨by first | omega | (simp only [InK]; omega), by first | omega | (simp only [InK]; omega)⟩)) ?_)
                 | (refine Cases.yes (by (first | assumption | exact decide_eq_true (by first | assumption | omega) | exact congrArg (!·) (decide_eq_false (by first | assumption | omega)) | exact congrArg (!·) (show _ = false by assumption) | rfl)) ?_)
                 | (refine Cases.no (by (first | assumption | exact decide_eq_false (by first | assumption | omega) | exact congrArg (!·) (decide_eq_true (by first | assumption | omega)) | exact congrArg (!·) (show _ = true by assumption) | rfl)) ?_)
                 | (refine Idx.mk ⟨_, rfl, by first | assumption | omega, ?_⟩)
                 | (refine Idx.mk ⟨0, rfl, by omega, ?_⟩)
                 | (refine DrawOb.start ?_)
                 | (refine TryF.fast rfl (by decide +kernel) (by kernel_rfl) ?_)
                 | (refine TryF.next rfl ?_)
                 | (refine TryF.other ?_)
                 | (refine TryG.go rfl (by decide +kernel) (by kernel_rfl) ?_)
                 | (refine TryG.next rfl ?_))
      refine ⟨⟨_, _, rfl, rfl, ?_⟩⟩
      exact AvLe.bool dte
  · have s1 := cusp_bad L K D h
    obtain ⟨e, he⟩ : ∃ e, e = dchk L K D := ⟨_, rfl⟩
    rw [← he] at s1 h
    clear he
    refine fn_sp (C := CX) [] [] tysX_ok mixed Tryd.func4 rfl (by kernel_rfl) Tryd.ntmps4 rfl rfl ?_
    repeat' (conv => whnf
             first
               | (refine Ob.mk (by (first | omega | (simp only [InK]; omega) | exact ⟨by omega, tdivIn (by omega) (by omega)⟩ | exact ⟨by first | omega | (simp only [InK]; omega), by first | omega | (simp only [InK]; omega)⟩)) ?_)
               | (refine Cases.yes (by (first | assumption | exact decide_eq_true (by first | assumption | omega) | exact congrArg (!·) (decide_eq_false (by first | assumption | omega)) | exact congrArg (!·) (show _ = false by assumption) | rfl)) ?_)
               | (refine Cases.no (by (first | assumption | exact decide_eq_false (by first | assumption | omega) | exact congrArg (!·) (decide_eq_true (by first | assumption | omega)) | exact congrArg (!·) (show _ = true by assumption) | rfl)) ?_)
               | (refine Idx.mk ⟨_, rfl, by first | assumption | omega, ?_⟩)
               | (refine Idx.mk ⟨0, rfl, by omega, ?_⟩)
               | (refine DrawOb.start ?_)
               | (refine TryF.fast rfl (by decide +kernel) (by kernel_rfl) ?_)
               | (refine TryF.next rfl ?_)
               | (refine TryF.other ?_)
               | (refine TryG.go rfl (by decide +kernel) (by kernel_rfl) ?_)
               | (refine TryG.next rfl ?_)
               | (refine Sp.call (s0) (ArgsLe.refl _) rfl (AvLe.refl _) ?_)
               | (refine Sp.call (s1) (ArgsLe.refl _) rfl (AvLe.refl _) ?_))
    refine ⟨⟨_, _, rfl, rfl, ?_⟩⟩
    exact AvLe.bool rfl
end Go.Proofs.YteamlpflgfmieaaDoor

