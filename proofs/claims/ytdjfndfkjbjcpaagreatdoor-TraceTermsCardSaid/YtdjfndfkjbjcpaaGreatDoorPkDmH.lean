/- Own texts joined: DmH, DmI. -/
import Derived.Test.YtdjfndfkjbjcpaaGreatDoorDmD
/- Spaces are checked, on both sides. -/
namespace Go.Proofs.YtdjfndfkjbjcpaaGreatDoor
open Go Go.RowKit Go.VG HP
def dchk (L K D : Int) : Int :=
  if L < 1 ∨ 120 < L ∨ K < 2 ∨ 24 < K ∨ D < -120 ∨ 120 < D then 2
  else if ¬ (D = 1 ∨ fundB D = true) then 15
  else if L.tmod D ≠ 0 then 14
  else if ¬ (D < 0 ↔ K % 2 = 1) then 16
  else if 512 < psi L.toNat * (K - 1) then 7 else 0
theorem dchk_range {L K D : Int} (h : L < 1 ∨ 120 < L ∨ K < 2 ∨ 24 < K ∨ D < -120 ∨ 120 < D) : dchk L K D = 2 := by unfold dchk; rw [if_pos h]
theorem dchk_disc {L K D : Int} (h : ¬ (L < 1 ∨ 120 < L ∨ K < 2 ∨ 24 < K ∨ D < -120 ∨ 120 < D)) (h2 : ¬ (D = 1 ∨ fundB D = true)) : dchk L K D = 15 := by unfold dchk; rw [if_neg h, if_pos h2]
theorem dchk_lev {L K D : Int} (h : ¬ (L < 1 ∨ 120 < L ∨ K < 2 ∨ 24 < K ∨ D < -120 ∨ 120 < D)) (h2 : D = 1 ∨ fundB D = true) (h3 : L.tmod D ≠ 0) : dchk L K D = 14 := by unfold dchk; rw [if_neg h, if_neg (fun x => x h2), if_pos h3]
theorem dchk_par {L K D : Int} (h : ¬ (L < 1 ∨ 120 < L ∨ K < 2 ∨ 24 < K ∨ D < -120 ∨ 120 < D)) (h2 : D = 1 ∨ fundB D = true) (h3 : L.tmod D = 0) (h4 : ¬ (D < 0 ↔ K % 2 = 1)) : dchk L K D = 16 := by unfold dchk; rw [if_neg h, if_neg (fun x => x h2), if_neg (fun x => x h3), if_pos h4]
theorem dchk_big {L K D : Int} (h : ¬ (L < 1 ∨ 120 < L ∨ K < 2 ∨ 24 < K ∨ D < -120 ∨ 120 < D)) (h2 : D = 1 ∨ fundB D = true) (h3 : L.tmod D = 0) (h4 : D < 0 ↔ K % 2 = 1) (h5 : 512 < psi L.toNat * (K - 1)) : dchk L K D = 7 := by unfold dchk; rw [if_neg h, if_neg (fun x => x h2), if_neg (fun x => x h3), if_neg (fun x => x h4), if_pos h5]
theorem dchk_ok {L K D : Int} (h : ¬ (L < 1 ∨ 120 < L ∨ K < 2 ∨ 24 < K ∨ D < -120 ∨ 120 < D)) (h2 : D = 1 ∨ fundB D = true) (h3 : L.tmod D = 0) (h4 : D < 0 ↔ K % 2 = 1) (h5 : ¬ 512 < psi L.toNat * (K - 1)) : dchk L K D = 0 := by unfold dchk; rw [if_neg h, if_neg (fun x => x h2), if_neg (fun x => x h3), if_neg (fun x => x h4), if_neg h5]
theorem fundB_mod {D : Int} (h : D = 1 ∨ fundB D = true) : D ≠ 0 ∧ (D % 4 = 0 ∨ D % 4 = 1) := by
  rcases h with rfl | h
  · omega
  · unfold fundB at h
    split at h
    · cases h
    · simp only [Bool.or_eq_true, Bool.and_eq_true, decide_eq_true_eq] at h
      rcases h with h | h
      · omega
      · have := Int.emod_eq_zero_of_dvd (Int.dvd_of_tmod_eq_zero h.1.1)
        omega
structure DOk (n k : Nat) (D : Int) : Prop where
  n0 : 1 ≤ n
  n1 : n ≤ 120
  k0 : 2 ≤ k
  k1 : k ≤ 24
  d0 : -120 ≤ D
  d1 : D ≤ 120
  dz : D ≠ 0
  d4 : D % 4 = 0 ∨ D % 4 = 1
  f : D = 1 ∨ fundB D = true
  dvd : D.natAbs ∣ n
  par : D < 0 ↔ k % 2 = 1
  big : psi n * ((k : Int) - 1) ≤ 512
theorem dchk_out {L K D : Int} (h : dchk L K D = 0) : ∃ n k : Nat, L = n ∧ K = k ∧ DOk n k D := by
  unfold dchk at h
  split at h
  · cases h
  next h1 =>
  split at h
  · cases h
  next h2 =>
  split at h
  · cases h
  next h3 =>
  split at h
  · cases h
  next h4 =>
  split at h
  · cases h
  next h5 =>
  have h2 := Decidable.of_not_not h2
  have h3 := Decidable.of_not_not h3
  have h4 := Decidable.of_not_not h4
  obtain ⟨n, rfl⟩ := Int.eq_ofNat_of_zero_le (a := L) (by omega)
  obtain ⟨k, rfl⟩ := Int.eq_ofNat_of_zero_le (a := K) (by omega)
  obtain ⟨m1, m2⟩ := fundB_mod h2
  refine ⟨n, k, rfl, rfl, by omega, by omega, by omega, by omega, by omega, by omega, m1, m2, h2, ?_, by omega, ?_⟩
  · have := Int.dvd_of_tmod_eq_zero h3
    rw [← Int.natAbs_dvd_natAbs] at this
    simpa using this
  · rw [Int.toNat_natCast] at h5
    omega
theorem DOk.chk {n k : Nat} {D : Int} (h : DOk n k D) : dchk n k D = 0 :=
  dchk_ok (by have := h.n0; have := h.n1; have := h.k0; have := h.k1; have := h.d0; have := h.d1; omega) h.f (Int.tmod_eq_zero_of_dvd (by rw [← Int.natAbs_dvd_natAbs]; simpa using h.dvd)) (by have := h.par; omega) (by rw [Int.toNat_natCast]; have := h.big; omega)
def fundC (d : Int) : Int × Int × Int :=
  if d = 0 then (0, 0, 2)
  else if 1 < d % 4 then (0, 0, 15)
  else
    let T : Int := (if d < 0 then -1 else 1) * prodL frF (facC d.natAbs)
    let S : Int := prodL sqF (facC d.natAbs)
    if T % 4 = 1 then (T, S, 0) else (4 * T, S / 2, 0)
theorem fundOut_C {d : Int} (h1 : -120 ≤ d) (h2 : d ≤ 120) : fundOut d = fundC d := by
  unfold fundOut fundC
  by_cases h0 : d = 0
  · rw [if_pos (.inl h0), if_pos h0]
  · rw [if_neg (by omega), if_neg h0]
    have hf : facs d.natAbs = facC d.natAbs := facs_C (by omega) (by omega)
    unfold fundT
    rw [hf]
    rfl
theorem okD_iff {D : Int} (h1 : -120 ≤ D) (h2 : D ≤ 120) : ((fundOut D).2.2 = 0 ∧ (fundOut D).2.1 = 1) ↔ (D = 1 ∨ fundB D = true) := by
  have h : allB 241 (fun i => (decide ((fundC ((i : Int) - 120)).2.2 = 0) && decide ((fundC ((i : Int) - 120)).2.1 = 1)) == (decide ((i : Int) - 120 = 1) || fundB ((i : Int) - 120))) = true := by decide +kernel
  obtain ⟨i, hi⟩ := Int.eq_ofNat_of_zero_le (a := D + 120) (by omega)
  have hi2 : i < 241 := by omega
  have := allB_at h hi2
  have e : (i : Int) - 120 = D := by omega
  rw [e, beq_iff_eq] at this
  rw [fundOut_C h1 h2, Bool.eq_iff_iff] at *
  simpa using this
end Go.Proofs.YtdjfndfkjbjcpaaGreatDoor

/- The checks of a space, walked on both sides. -/
namespace Go.Proofs.YtdjfndfkjbjcpaaGreatDoor
open Go Go.RowKit Go.VG HP
set_option maxHeartbeats 4000000 in
theorem checkr_sp (L K D : Int) : Sp CX 51 [specA L K D] (int .i64 (dchk L K D)) := by
  refine fn_sp (C := CX) [] [] tysX_ok mixed Tryz.func51 rfl (by kernel_rfl) Tryz.ntmps51 rfl rfl ?_
  by_cases r0 : L < 1
  · repeat' ((conv => whnf); first | refine Je ?_)
    refine ⟨⟨_, _, rfl, rfl, AvLe.int ?_⟩⟩
    exact (dchk_range (by omega)).symm
  by_cases r1 : 120 < L
  · repeat' ((conv => whnf); first | refine Je ?_ | refine Jf ?_)
    refine ⟨⟨_, _, rfl, rfl, AvLe.int ?_⟩⟩
    exact (dchk_range (by omega)).symm
  by_cases r2 : K < 2
  · repeat' ((conv => whnf); first | refine Je ?_ | refine Jf ?_)
    refine ⟨⟨_, _, rfl, rfl, AvLe.int ?_⟩⟩
    exact (dchk_range (by omega)).symm
  by_cases r3 : 24 < K
  · repeat' ((conv => whnf); first | refine Je ?_ | refine Jf ?_)
    refine ⟨⟨_, _, rfl, rfl, AvLe.int ?_⟩⟩
    exact (dchk_range (by omega)).symm
  by_cases r4 : D < -120
  · repeat' ((conv => whnf); first | refine Je ?_ | refine Jf ?_)
    refine ⟨⟨_, _, rfl, rfl, AvLe.int ?_⟩⟩
    exact (dchk_range (by omega)).symm
  by_cases r5 : 120 < D
  · repeat' ((conv => whnf); first | refine Je ?_ | refine Jf ?_)
    refine ⟨⟨_, _, rfl, rfl, AvLe.int ?_⟩⟩
    exact (dchk_range (by omega)).symm
  have hr : ¬ (L < 1 ∨ 120 < L ∨ K < 2 ∨ 24 < K ∨ D < -120 ∨ 120 < D) := by omega
  obtain ⟨n, rfl⟩ := Int.eq_ofNat_of_zero_le (a := L) (by omega)
  have ek : K.tmod 2 = K % 2 := Int.tmod_eq_emod_of_nonneg (by omega)
  obtain ⟨p1, p2⟩ := psi_small (n := n) (by omega) (by omega)
  have hm : psi n * (K - 1) ≤ 400 * 23 := Int.mul_le_mul p2 (by omega) (by omega) (by omega)
  have hm0 : 0 ≤ psi n * (K - 1) := Int.mul_nonneg (by omega) (by omega)
  have s1 := fund28_sp D (by omega) (by omega)
  by_cases c2 : D = 1 ∨ fundB D = true
  · by_cases c1 : D = 1
    · skip
      have dz := (fundB_mod c2).1
      by_cases c3 : (n : Int).tmod D = 0
      · rcases (show D < 0 ∨ 0 < D by omega) with d | d
        · exact absurd d (by omega)
        · rcases (show K % 2 = 0 ∨ K % 2 = 1 by omega) with m | m
          · have q1 : decide (0 < D) = true := decide_eq_true (by omega)
            have q2 : decide (K.tmod 2 = 0) = true := decide_eq_true (by omega)
            have q3 : (!decide (0 < D) == decide (K.tmod 2 = 0)) = false := by rw [q1, q2]; rfl
            by_cases c5 : 512 < psi n * (K - 1)
            · repeat' ((conv => whnf); first | refine Ja ?_ | refine Jb ?_ | refine Je ?_ | refine Jf ?_ | refine Ji ?_ | refine Jj ?_ | refine Jk rfl ?_ | refine Jy (psi21_sp n (by omega) (by omega)) ?_)
              refine ⟨⟨_, _, rfl, rfl, AvLe.int ?_⟩⟩
              exact (dchk_big hr c2 c3 (by omega) (by rw [Int.toNat_natCast]; exact c5)).symm
            · repeat' ((conv => whnf); first | refine Ja ?_ | refine Jb ?_ | refine Jf ?_ | refine Ji ?_ | refine Jj ?_ | refine Jk rfl ?_ | refine Jy (psi21_sp n (by omega) (by omega)) ?_)
              refine ⟨⟨_, _, rfl, rfl, AvLe.int ?_⟩⟩
              exact (dchk_ok hr c2 c3 (by omega) (by rw [Int.toNat_natCast]; exact c5)).symm
          · have q1 : decide (0 < D) = true := decide_eq_true (by omega)
            have q2 : decide (K.tmod 2 = 0) = false := decide_eq_false (by omega)
            have q3 : (!decide (0 < D) == decide (K.tmod 2 = 0)) = true := by rw [q1, q2]; rfl
            repeat' ((conv => whnf); first | refine Ja ?_ | refine Je ?_ | refine Jf ?_)
            refine ⟨⟨_, _, rfl, rfl, AvLe.int ?_⟩⟩
            exact (dchk_par hr c2 c3 (by omega)).symm
      · repeat' ((conv => whnf); first | refine Ja ?_ | refine Je ?_ | refine Jf ?_)
        refine ⟨⟨_, _, rfl, rfl, AvLe.int ?_⟩⟩
        exact (dchk_lev hr c2 c3).symm
    · have c2' : fundB D = true := c2.resolve_left c1
      rw [c2'] at s1
      · skip
        have dz := (fundB_mod c2).1
        by_cases c3 : (n : Int).tmod D = 0
        · rcases (show D < 0 ∨ 0 < D by omega) with d | d
          · rcases (show K % 2 = 0 ∨ K % 2 = 1 by omega) with m | m
            · have q1 : decide (0 < D) = false := decide_eq_false (by omega)
              have q2 : decide (K.tmod 2 = 0) = true := decide_eq_true (by omega)
              have q3 : (!decide (0 < D) == decide (K.tmod 2 = 0)) = true := by rw [q1, q2]; rfl
              repeat' ((conv => whnf); first | refine Ja ?_ | refine Je ?_ | refine Jf ?_ | refine Jy s1 ?_)
              refine ⟨⟨_, _, rfl, rfl, AvLe.int ?_⟩⟩
              exact (dchk_par hr c2 c3 (by omega)).symm
            · have q1 : decide (0 < D) = false := decide_eq_false (by omega)
              have q2 : decide (K.tmod 2 = 0) = false := decide_eq_false (by omega)
              have q3 : (!decide (0 < D) == decide (K.tmod 2 = 0)) = false := by rw [q1, q2]; rfl
              by_cases c5 : 512 < psi n * (K - 1)
              · repeat' ((conv => whnf); first | refine Ja ?_ | refine Jb ?_ | refine Je ?_ | refine Jf ?_ | refine Ji ?_ | refine Jj ?_ | refine Jk rfl ?_ | refine Jy s1 ?_ | refine Jy (psi21_sp n (by omega) (by omega)) ?_)
                refine ⟨⟨_, _, rfl, rfl, AvLe.int ?_⟩⟩
                exact (dchk_big hr c2 c3 (by omega) (by rw [Int.toNat_natCast]; exact c5)).symm
              · repeat' ((conv => whnf); first | refine Ja ?_ | refine Jb ?_ | refine Je ?_ | refine Jf ?_ | refine Ji ?_ | refine Jj ?_ | refine Jk rfl ?_ | refine Jy s1 ?_ | refine Jy (psi21_sp n (by omega) (by omega)) ?_)
                refine ⟨⟨_, _, rfl, rfl, AvLe.int ?_⟩⟩
                exact (dchk_ok hr c2 c3 (by omega) (by rw [Int.toNat_natCast]; exact c5)).symm
          · rcases (show K % 2 = 0 ∨ K % 2 = 1 by omega) with m | m
            · have q1 : decide (0 < D) = true := decide_eq_true (by omega)
              have q2 : decide (K.tmod 2 = 0) = true := decide_eq_true (by omega)
              have q3 : (!decide (0 < D) == decide (K.tmod 2 = 0)) = false := by rw [q1, q2]; rfl
              by_cases c5 : 512 < psi n * (K - 1)
              · repeat' ((conv => whnf); first | refine Ja ?_ | refine Jb ?_ | refine Je ?_ | refine Jf ?_ | refine Ji ?_ | refine Jj ?_ | refine Jk rfl ?_ | refine Jy s1 ?_ | refine Jy (psi21_sp n (by omega) (by omega)) ?_)
                refine ⟨⟨_, _, rfl, rfl, AvLe.int ?_⟩⟩
                exact (dchk_big hr c2 c3 (by omega) (by rw [Int.toNat_natCast]; exact c5)).symm
              · repeat' ((conv => whnf); first | refine Ja ?_ | refine Jb ?_ | refine Je ?_ | refine Jf ?_ | refine Ji ?_ | refine Jj ?_ | refine Jk rfl ?_ | refine Jy s1 ?_ | refine Jy (psi21_sp n (by omega) (by omega)) ?_)
                refine ⟨⟨_, _, rfl, rfl, AvLe.int ?_⟩⟩
                exact (dchk_ok hr c2 c3 (by omega) (by rw [Int.toNat_natCast]; exact c5)).symm
            · have q1 : decide (0 < D) = true := decide_eq_true (by omega)
              have q2 : decide (K.tmod 2 = 0) = false := decide_eq_false (by omega)
              have q3 : (!decide (0 < D) == decide (K.tmod 2 = 0)) = true := by rw [q1, q2]; rfl
              repeat' ((conv => whnf); first | refine Ja ?_ | refine Je ?_ | refine Jf ?_ | refine Jy s1 ?_)
              refine ⟨⟨_, _, rfl, rfl, AvLe.int ?_⟩⟩
              exact (dchk_par hr c2 c3 (by omega)).symm
        · repeat' ((conv => whnf); first | refine Ja ?_ | refine Je ?_ | refine Jf ?_ | refine Jy s1 ?_)
          refine ⟨⟨_, _, rfl, rfl, AvLe.int ?_⟩⟩
          exact (dchk_lev hr c2 c3).symm
  · have c2' : fundB D = false := by
      cases hb : fundB D with
      | true => exact absurd (.inr hb) c2
      | false => rfl
    have c1 : D ≠ 1 := fun h => c2 (.inl h)
    rw [c2'] at s1
    repeat' ((conv => whnf); first | refine Je ?_ | refine Jf ?_ | refine Jy s1 ?_)
    refine ⟨⟨_, _, rfl, rfl, AvLe.int ?_⟩⟩
    exact (dchk_disc hr c2).symm
set_option maxHeartbeats 4000000 in
theorem checkm_sp (L K D : Int) : Sp CX 13 [specA L K D] (int .i64 (dchk L K D)) := by
  refine fn_sp (C := CX) [] [] tysX_ok mixed Tryz.func13 rfl (by kernel_rfl) Tryz.ntmps13 rfl rfl ?_
  by_cases r0 : L < 1
  · repeat' ((conv => whnf); first | refine Je ?_)
    refine ⟨⟨_, _, rfl, rfl, AvLe.int ?_⟩⟩
    exact (dchk_range (by omega)).symm
  by_cases r1 : 120 < L
  · repeat' ((conv => whnf); first | refine Je ?_ | refine Jf ?_)
    refine ⟨⟨_, _, rfl, rfl, AvLe.int ?_⟩⟩
    exact (dchk_range (by omega)).symm
  by_cases r2 : K < 2
  · repeat' ((conv => whnf); first | refine Je ?_ | refine Jf ?_)
    refine ⟨⟨_, _, rfl, rfl, AvLe.int ?_⟩⟩
    exact (dchk_range (by omega)).symm
  by_cases r3 : 24 < K
  · repeat' ((conv => whnf); first | refine Je ?_ | refine Jf ?_)
    refine ⟨⟨_, _, rfl, rfl, AvLe.int ?_⟩⟩
    exact (dchk_range (by omega)).symm
  by_cases r4 : D < -120
  · repeat' ((conv => whnf); first | refine Je ?_ | refine Jf ?_)
    refine ⟨⟨_, _, rfl, rfl, AvLe.int ?_⟩⟩
    exact (dchk_range (by omega)).symm
  by_cases r5 : 120 < D
  · repeat' ((conv => whnf); first | refine Je ?_ | refine Jf ?_)
    refine ⟨⟨_, _, rfl, rfl, AvLe.int ?_⟩⟩
    exact (dchk_range (by omega)).symm
  have hr : ¬ (L < 1 ∨ 120 < L ∨ K < 2 ∨ 24 < K ∨ D < -120 ∨ 120 < D) := by omega
  obtain ⟨n, rfl⟩ := Int.eq_ofNat_of_zero_le (a := L) (by omega)
  have ek : K.tmod 2 = K % 2 := Int.tmod_eq_emod_of_nonneg (by omega)
  obtain ⟨p1, p2⟩ := psi_small (n := n) (by omega) (by omega)
  have hm : psi n * (K - 1) ≤ 400 * 23 := Int.mul_le_mul p2 (by omega) (by omega) (by omega)
  have hm0 : 0 ≤ psi n * (K - 1) := Int.mul_nonneg (by omega) (by omega)
  have s1 := fund_sp D
  have ho := okD_iff (D := D) (by omega) (by omega)
  obtain ⟨o1, o2, o3, e1, e2, e3⟩ : ∃ a b c : Int, a = (fundOut D).1 ∧ b = (fundOut D).2.1 ∧ c = (fundOut D).2.2 := ⟨_, _, _, rfl, rfl, rfl⟩
  rw [← e1, ← e2, ← e3] at s1
  rw [← e2, ← e3] at ho
  clear e1 e2 e3
  by_cases c2 : D = 1 ∨ fundB D = true
  · obtain ⟨h3, h2⟩ := ho.2 c2
    subst h3 h2
    clear ho
    have dz := (fundB_mod c2).1
    by_cases c3 : (n : Int).tmod D = 0
    · rcases (show D < 0 ∨ 0 < D by omega) with d | d
      · rcases (show K % 2 = 0 ∨ K % 2 = 1 by omega) with m | m
        · have q1 : decide (D < 0) = true := decide_eq_true (by omega)
          have q2 : decide (K.tmod 2 = 1) = false := decide_eq_false (by omega)
          have q3 : (!decide (D < 0) == decide (K.tmod 2 = 1)) = true := by rw [q1, q2]; rfl
          repeat' ((conv => whnf); first | refine Ja ?_ | refine Je ?_ | refine Jf ?_ | refine Jy s1 ?_ | refine Jy (psi_sp n (by omega) (by omega)) ?_)
          refine ⟨⟨_, _, rfl, rfl, AvLe.int ?_⟩⟩
          exact (dchk_par hr c2 c3 (by omega)).symm
        · have q1 : decide (D < 0) = true := decide_eq_true (by omega)
          have q2 : decide (K.tmod 2 = 1) = true := decide_eq_true (by omega)
          have q3 : (!decide (D < 0) == decide (K.tmod 2 = 1)) = false := by rw [q1, q2]; rfl
          by_cases c5 : 512 < psi n * (K - 1)
          · repeat' ((conv => whnf); first | refine Ja ?_ | refine Jb ?_ | refine Je ?_ | refine Jf ?_ | refine Jy s1 ?_ | refine Jy (psi_sp n (by omega) (by omega)) ?_)
            refine ⟨⟨_, _, rfl, rfl, AvLe.int ?_⟩⟩
            exact (dchk_big hr c2 c3 (by omega) (by rw [Int.toNat_natCast]; exact c5)).symm
          · repeat' ((conv => whnf); first | refine Ja ?_ | refine Jb ?_ | refine Jf ?_ | refine Jy s1 ?_ | refine Jy (psi_sp n (by omega) (by omega)) ?_)
            refine ⟨⟨_, _, rfl, rfl, AvLe.int ?_⟩⟩
            exact (dchk_ok hr c2 c3 (by omega) (by rw [Int.toNat_natCast]; exact c5)).symm
      · rcases (show K % 2 = 0 ∨ K % 2 = 1 by omega) with m | m
        · have q1 : decide (D < 0) = false := decide_eq_false (by omega)
          have q2 : decide (K.tmod 2 = 1) = false := decide_eq_false (by omega)
          have q3 : (!decide (D < 0) == decide (K.tmod 2 = 1)) = false := by rw [q1, q2]; rfl
          by_cases c5 : 512 < psi n * (K - 1)
          · repeat' ((conv => whnf); first | refine Ja ?_ | refine Jb ?_ | refine Je ?_ | refine Jf ?_ | refine Jy s1 ?_ | refine Jy (psi_sp n (by omega) (by omega)) ?_)
            refine ⟨⟨_, _, rfl, rfl, AvLe.int ?_⟩⟩
            exact (dchk_big hr c2 c3 (by omega) (by rw [Int.toNat_natCast]; exact c5)).symm
          · repeat' ((conv => whnf); first | refine Ja ?_ | refine Jb ?_ | refine Jf ?_ | refine Jy s1 ?_ | refine Jy (psi_sp n (by omega) (by omega)) ?_)
            refine ⟨⟨_, _, rfl, rfl, AvLe.int ?_⟩⟩
            exact (dchk_ok hr c2 c3 (by omega) (by rw [Int.toNat_natCast]; exact c5)).symm
        · have q1 : decide (D < 0) = false := decide_eq_false (by omega)
          have q2 : decide (K.tmod 2 = 1) = true := decide_eq_true (by omega)
          have q3 : (!decide (D < 0) == decide (K.tmod 2 = 1)) = true := by rw [q1, q2]; rfl
          repeat' ((conv => whnf); first | refine Ja ?_ | refine Je ?_ | refine Jf ?_ | refine Jy s1 ?_ | refine Jy (psi_sp n (by omega) (by omega)) ?_)
          refine ⟨⟨_, _, rfl, rfl, AvLe.int ?_⟩⟩
          exact (dchk_par hr c2 c3 (by omega)).symm
    · repeat' ((conv => whnf); first | refine Ja ?_ | refine Je ?_ | refine Jf ?_ | refine Jy s1 ?_ | refine Jy (psi_sp n (by omega) (by omega)) ?_)
      refine ⟨⟨_, _, rfl, rfl, AvLe.int ?_⟩⟩
      exact (dchk_lev hr c2 c3).symm
  · by_cases h3 : o3 = 0
    · have h2 : o2 ≠ 1 := fun h => c2 (ho.1 ⟨h3, h⟩)
      clear ho
      repeat' ((conv => whnf); first | refine Je ?_ | refine Jf ?_ | refine Jy s1 ?_)
      refine ⟨⟨_, _, rfl, rfl, AvLe.int ?_⟩⟩
      exact (dchk_disc hr c2).symm
    · clear ho
      repeat' ((conv => whnf); first | refine Je ?_ | refine Jf ?_ | refine Jy s1 ?_)
      refine ⟨⟨_, _, rfl, rfl, AvLe.int ?_⟩⟩
      exact (dchk_disc hr c2).symm
end Go.Proofs.YtdjfndfkjbjcpaaGreatDoor

