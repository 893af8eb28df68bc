/- The statements about traces: level 1. -/
import Derived.Test.YtjijdabbhfefjaaGreatDoorTlA
namespace Go.Proofs.YtjijdabbhfefjaaGreatDoor
open Go Go.RowKit Go.VG HP
def tauL (m : Nat) : Int := [0, 1, -24, 252, -1472, 4830, -6048, -16744, 84480, -113643, -115920].getD m 0
def oneB : Bool := allB 41 fun m => Nat.beq m 0 || atN 1 1 m (tabT m (2 * m + 3)) fun k z => Nat.blt 14 k || (bif Nat.beq k 12 then (decide (z % 12 = 0) && (Nat.blt 10 m || decide (z = 12 * tauL m))) else decide (z = 0))
theorem one_chk32 : oneB = true := by decide +kernel
theorem one_at {k m : Nat} (h1 : 2 ≤ k) (h2 : k ≤ 14) (h3 : k % 2 = 0) (m1 : 1 ≤ m) (m2 : m ≤ 40) : (k ≠ 12 → T12 1 k 1 m = 0) ∧ (k = 12 → (12 : Int) ∣ T12 1 k 1 m ∧ (m ≤ 10 → T12 1 k 1 m = 12 * tauL m)) := by
  have ok := dok_one h1 (by omega) h3
  have h := allB_at one_chk32 (show m < 41 by omega)
  rw [beq_f (show m ≠ 0 by omega), Bool.false_or] at h
  have h := atN_at h ok (Nat.gcd_one_right _) m1 (by omega)
  have hb : Nat.blt 14 k = false := by
    rw [Bool.eq_false_iff]
    intro x
    have := Nat.blt_eq.mp x
    omega
  rw [hb, Bool.false_or] at h
  refine ⟨fun hk => ?_, fun hk => ?_⟩
  · rw [beq_f hk] at h
    exact of_decide_eq_true h
  · rw [beq_t hk] at h
    have h : (decide (T12 1 k 1 m % 12 = 0) && (Nat.blt 10 m || decide (T12 1 k 1 m = 12 * tauL m))) = true := h
    rw [Bool.and_eq_true] at h
    refine ⟨Int.dvd_of_emod_eq_zero (of_decide_eq_true h.1), fun hm => ?_⟩
    have hb2 : Nat.blt 10 m = false := by
      rw [Bool.eq_false_iff]
      intro x
      have := Nat.blt_eq.mp x
      omega
    have := h.2
    rw [hb2, Bool.false_or] at this
    exact of_decide_eq_true this
set_option maxHeartbeats 8000000 in
theorem law_tone (k n : Int) (k0 : 0 ≤ k) (k1 : k ≤ 255) (n0 : 0 ≤ n) (n1 : n ≤ 255) : Sp CX 5 [int .u8 k, int .u8 n] (bool true) := by
  have s0 := tawake_sp
  obtain ⟨K, rfl⟩ := Int.eq_ofNat_of_zero_le k0
  obtain ⟨m0, rfl⟩ := Int.eq_ofNat_of_zero_le n0
  have em : (K : Int).tmod 7 = ((K % 7 : Nat) : Int) := (Int.ofNat_tmod K 7).symm
  have en : (m0 : Int).tmod 40 = ((m0 % 40 : Nat) : Int) := (Int.ofNat_tmod m0 40).symm
  obtain ⟨m, hm⟩ : ∃ m, m = m0 % 40 + 1 := ⟨_, rfl⟩
  have m1 : 1 ≤ m := by omega
  have m2 : m ≤ 40 := by omega
  have em2 : 1 + (m0 : Int).tmod 40 = m := by omega
  have z0 := Z_sp 0 (by omega) (by omega)
  have i0 := SameInt_sp 0 (by decide)
  rcases (show K % 7 = 0 ∨ K % 7 = 1 ∨ K % 7 = 2 ∨ K % 7 = 3 ∨ K % 7 = 4 ∨ K % 7 = 5 ∨ K % 7 = 6 by omega) with h | h | h | h | h | h | h
  · have a := one_at (k := 2) (m := m) (by omega) (by omega) (by omega) m1 m2
    have e := a.1 (by omega)
    have t := Trace_ok 1 2 m 1 (dok_one (by omega) (by omega) (by omega)) m1 (by omega) (Nat.gcd_one_right _) (by rw [e]; exact ⟨0, rfl⟩)
    rw [e, show (0 : Int) / 12 = 0 by decide] at t
    clear a e
    refine fn_sp (C := CX) [] [] tysX_ok mixed Tryz.func5 rfl (by kernel_rfl) Tryz.ntmps5 rfl rfl ?_
    repeat' ((conv => whnf); first | (refine Idx.mk ⟨0, by omega, by decide, ?_⟩) | refine Ja ?_ | refine Jb ?_ | refine Jc ?_ | refine Jd ?_ | refine Je ?_ | refine Jf ?_ | refine Jg rfl ?_ | refine Jh rfl ?_ | refine Ji ?_ | refine Jj ?_ | refine Jk rfl ?_ | refine Jl ?_ | refine Jm ?_ | refine Jn rfl ?_ | refine Jo ?_ | refine Jp ?_ | refine Jq rfl ?_ | refine Jr ?_ | refine Js ?_ | refine Jt rfl ?_ | refine Ju ?_ | refine Jv ?_ | refine Jw ?_ | refine Jx rfl ?_ | refine Jy s0 ?_ | refine Sp.call (t) (.cons (.refl _) (.cons (.int em2) .nil)) rfl (AvLe.refl _) ?_ | refine Jy z0 ?_ | refine Jy i0 ?_)
    refine ⟨⟨_, _, rfl, rfl, ?_⟩⟩
    exact AvLe.bool rfl
  · have a := one_at (k := 4) (m := m) (by omega) (by omega) (by omega) m1 m2
    have e := a.1 (by omega)
    have t := Trace_ok 1 4 m 1 (dok_one (by omega) (by omega) (by omega)) m1 (by omega) (Nat.gcd_one_right _) (by rw [e]; exact ⟨0, rfl⟩)
    rw [e, show (0 : Int) / 12 = 0 by decide] at t
    clear a e
    refine fn_sp (C := CX) [] [] tysX_ok mixed Tryz.func5 rfl (by kernel_rfl) Tryz.ntmps5 rfl rfl ?_
    repeat' ((conv => whnf); first | (refine Idx.mk ⟨1, by omega, by decide, ?_⟩) | refine Ja ?_ | refine Jb ?_ | refine Jc ?_ | refine Jd ?_ | refine Je ?_ | refine Jf ?_ | refine Jg rfl ?_ | refine Jh rfl ?_ | refine Ji ?_ | refine Jj ?_ | refine Jk rfl ?_ | refine Jl ?_ | refine Jm ?_ | refine Jn rfl ?_ | refine Jo ?_ | refine Jp ?_ | refine Jq rfl ?_ | refine Jr ?_ | refine Js ?_ | refine Jt rfl ?_ | refine Ju ?_ | refine Jv ?_ | refine Jw ?_ | refine Jx rfl ?_ | refine Jy s0 ?_ | refine Sp.call (t) (.cons (.refl _) (.cons (.int em2) .nil)) rfl (AvLe.refl _) ?_ | refine Jy z0 ?_ | refine Jy i0 ?_)
    refine ⟨⟨_, _, rfl, rfl, ?_⟩⟩
    exact AvLe.bool rfl
  · have a := one_at (k := 6) (m := m) (by omega) (by omega) (by omega) m1 m2
    have e := a.1 (by omega)
    have t := Trace_ok 1 6 m 1 (dok_one (by omega) (by omega) (by omega)) m1 (by omega) (Nat.gcd_one_right _) (by rw [e]; exact ⟨0, rfl⟩)
    rw [e, show (0 : Int) / 12 = 0 by decide] at t
    clear a e
    refine fn_sp (C := CX) [] [] tysX_ok mixed Tryz.func5 rfl (by kernel_rfl) Tryz.ntmps5 rfl rfl ?_
    repeat' ((conv => whnf); first | (refine Idx.mk ⟨2, by omega, by decide, ?_⟩) | refine Ja ?_ | refine Jb ?_ | refine Jc ?_ | refine Jd ?_ | refine Je ?_ | refine Jf ?_ | refine Jg rfl ?_ | refine Jh rfl ?_ | refine Ji ?_ | refine Jj ?_ | refine Jk rfl ?_ | refine Jl ?_ | refine Jm ?_ | refine Jn rfl ?_ | refine Jo ?_ | refine Jp ?_ | refine Jq rfl ?_ | refine Jr ?_ | refine Js ?_ | refine Jt rfl ?_ | refine Ju ?_ | refine Jv ?_ | refine Jw ?_ | refine Jx rfl ?_ | refine Jy s0 ?_ | refine Sp.call (t) (.cons (.refl _) (.cons (.int em2) .nil)) rfl (AvLe.refl _) ?_ | refine Jy z0 ?_ | refine Jy i0 ?_)
    refine ⟨⟨_, _, rfl, rfl, ?_⟩⟩
    exact AvLe.bool rfl
  · have a := one_at (k := 8) (m := m) (by omega) (by omega) (by omega) m1 m2
    have e := a.1 (by omega)
    have t := Trace_ok 1 8 m 1 (dok_one (by omega) (by omega) (by omega)) m1 (by omega) (Nat.gcd_one_right _) (by rw [e]; exact ⟨0, rfl⟩)
    rw [e, show (0 : Int) / 12 = 0 by decide] at t
    clear a e
    refine fn_sp (C := CX) [] [] tysX_ok mixed Tryz.func5 rfl (by kernel_rfl) Tryz.ntmps5 rfl rfl ?_
    repeat' ((conv => whnf); first | (refine Idx.mk ⟨3, by omega, by decide, ?_⟩) | refine Ja ?_ | refine Jb ?_ | refine Jc ?_ | refine Jd ?_ | refine Je ?_ | refine Jf ?_ | refine Jg rfl ?_ | refine Jh rfl ?_ | refine Ji ?_ | refine Jj ?_ | refine Jk rfl ?_ | refine Jl ?_ | refine Jm ?_ | refine Jn rfl ?_ | refine Jo ?_ | refine Jp ?_ | refine Jq rfl ?_ | refine Jr ?_ | refine Js ?_ | refine Jt rfl ?_ | refine Ju ?_ | refine Jv ?_ | refine Jw ?_ | refine Jx rfl ?_ | refine Jy s0 ?_ | refine Sp.call (t) (.cons (.refl _) (.cons (.int em2) .nil)) rfl (AvLe.refl _) ?_ | refine Jy z0 ?_ | refine Jy i0 ?_)
    refine ⟨⟨_, _, rfl, rfl, ?_⟩⟩
    exact AvLe.bool rfl
  · have a := one_at (k := 10) (m := m) (by omega) (by omega) (by omega) m1 m2
    have e := a.1 (by omega)
    have t := Trace_ok 1 10 m 1 (dok_one (by omega) (by omega) (by omega)) m1 (by omega) (Nat.gcd_one_right _) (by rw [e]; exact ⟨0, rfl⟩)
    rw [e, show (0 : Int) / 12 = 0 by decide] at t
    clear a e
    refine fn_sp (C := CX) [] [] tysX_ok mixed Tryz.func5 rfl (by kernel_rfl) Tryz.ntmps5 rfl rfl ?_
    repeat' ((conv => whnf); first | (refine Idx.mk ⟨4, by omega, by decide, ?_⟩) | refine Ja ?_ | refine Jb ?_ | refine Jc ?_ | refine Jd ?_ | refine Je ?_ | refine Jf ?_ | refine Jg rfl ?_ | refine Jh rfl ?_ | refine Ji ?_ | refine Jj ?_ | refine Jk rfl ?_ | refine Jl ?_ | refine Jm ?_ | refine Jn rfl ?_ | refine Jo ?_ | refine Jp ?_ | refine Jq rfl ?_ | refine Jr ?_ | refine Js ?_ | refine Jt rfl ?_ | refine Ju ?_ | refine Jv ?_ | refine Jw ?_ | refine Jx rfl ?_ | refine Jy s0 ?_ | refine Sp.call (t) (.cons (.refl _) (.cons (.int em2) .nil)) rfl (AvLe.refl _) ?_ | refine Jy z0 ?_ | refine Jy i0 ?_)
    refine ⟨⟨_, _, rfl, rfl, ?_⟩⟩
    exact AvLe.bool rfl
  · have a := one_at (k := 12) (m := m) (by omega) (by omega) (by omega) m1 m2
    obtain ⟨dv, tv⟩ := a.2 rfl
    have t := Trace_ok 1 12 m 1 (dok_one (by omega) (by omega) (by omega)) m1 (by omega) (Nat.gcd_one_right _) dv
    clear a dv
    by_cases hg : 10 < m
    · clear tv
      generalize T12 1 12 1 m / 12 = X at *
      refine fn_sp (C := CX) [] [] tysX_ok mixed Tryz.func5 rfl (by kernel_rfl) Tryz.ntmps5 rfl rfl ?_
      repeat' ((conv => whnf); first | (refine Idx.mk ⟨5, by omega, by decide, ?_⟩) | refine Ja ?_ | refine Jb ?_ | refine Jc ?_ | refine Jd ?_ | refine Je ?_ | refine Jf ?_ | refine Jg rfl ?_ | refine Jh rfl ?_ | refine Ji ?_ | refine Jj ?_ | refine Jk rfl ?_ | refine Jl ?_ | refine Jm ?_ | refine Jn rfl ?_ | refine Jo ?_ | refine Jp ?_ | refine Jq rfl ?_ | refine Jr ?_ | refine Js ?_ | refine Jt rfl ?_ | refine Ju ?_ | refine Jv ?_ | refine Jw ?_ | refine Jx rfl ?_ | refine Jy s0 ?_ | refine Sp.call (t) (.cons (.refl _) (.cons (.int em2) .nil)) rfl (AvLe.refl _) ?_)
      refine ⟨⟨_, _, rfl, rfl, ?_⟩⟩
      exact AvLe.bool rfl
    · have e := tv (by omega)
      rw [e, Int.mul_ediv_cancel_left _ (by omega)] at t
      clear tv e
      rcases (show m = 1 ∨ m = 2 ∨ m = 3 ∨ m = 4 ∨ m = 5 ∨ m = 6 ∨ m = 7 ∨ m = 8 ∨ m = 9 ∨ m = 10 by omega) with g | g | g | g | g | g | g | g | g | g
      · have z := Z_sp (1) (by omega) (by omega)
        have i := SameInt_sp (1) (by decide)
        rw [g, show tauL 1 = 1 by decide] at t
        refine fn_sp (C := CX) [] [] tysX_ok mixed Tryz.func5 rfl (by kernel_rfl) Tryz.ntmps5 rfl rfl ?_
        repeat' ((conv => whnf); first | (refine Idx.mk ⟨5, by omega, by decide, ?_⟩) | (refine Idx.mk ⟨1, by omega, by decide, ?_⟩) | refine Ja ?_ | refine Jb ?_ | refine Jc ?_ | refine Jd ?_ | refine Je ?_ | refine Jf ?_ | refine Jg rfl ?_ | refine Jh rfl ?_ | refine Ji ?_ | refine Jj ?_ | refine Jk rfl ?_ | refine Jl ?_ | refine Jm ?_ | refine Jn rfl ?_ | refine Jo ?_ | refine Jp ?_ | refine Jq rfl ?_ | refine Jr ?_ | refine Js ?_ | refine Jt rfl ?_ | refine Ju ?_ | refine Jv ?_ | refine Jw ?_ | refine Jx rfl ?_ | refine Jy s0 ?_ | refine Sp.call (t) (.cons (.refl _) (.cons (.int (by omega)) .nil)) rfl (AvLe.refl _) ?_ | refine Jy z ?_ | refine Jy i ?_)
        refine ⟨⟨_, _, rfl, rfl, ?_⟩⟩
        exact AvLe.bool rfl
      · have z := Z_sp (-24) (by omega) (by omega)
        have i := SameInt_sp (-24) (by decide)
        rw [g, show tauL 2 = -24 by decide] at t
        refine fn_sp (C := CX) [] [] tysX_ok mixed Tryz.func5 rfl (by kernel_rfl) Tryz.ntmps5 rfl rfl ?_
        repeat' ((conv => whnf); first | (refine Idx.mk ⟨5, by omega, by decide, ?_⟩) | (refine Idx.mk ⟨2, by omega, by decide, ?_⟩) | refine Ja ?_ | refine Jb ?_ | refine Jc ?_ | refine Jd ?_ | refine Je ?_ | refine Jf ?_ | refine Jg rfl ?_ | refine Jh rfl ?_ | refine Ji ?_ | refine Jj ?_ | refine Jk rfl ?_ | refine Jl ?_ | refine Jm ?_ | refine Jn rfl ?_ | refine Jo ?_ | refine Jp ?_ | refine Jq rfl ?_ | refine Jr ?_ | refine Js ?_ | refine Jt rfl ?_ | refine Ju ?_ | refine Jv ?_ | refine Jw ?_ | refine Jx rfl ?_ | refine Jy s0 ?_ | refine Sp.call (t) (.cons (.refl _) (.cons (.int (by omega)) .nil)) rfl (AvLe.refl _) ?_ | refine Jy z ?_ | refine Jy i ?_)
        refine ⟨⟨_, _, rfl, rfl, ?_⟩⟩
        exact AvLe.bool rfl
      · have z := Z_sp (252) (by omega) (by omega)
        have i := SameInt_sp (252) (by decide)
        rw [g, show tauL 3 = 252 by decide] at t
        refine fn_sp (C := CX) [] [] tysX_ok mixed Tryz.func5 rfl (by kernel_rfl) Tryz.ntmps5 rfl rfl ?_
        repeat' ((conv => whnf); first | (refine Idx.mk ⟨5, by omega, by decide, ?_⟩) | (refine Idx.mk ⟨3, by omega, by decide, ?_⟩) | refine Ja ?_ | refine Jb ?_ | refine Jc ?_ | refine Jd ?_ | refine Je ?_ | refine Jf ?_ | refine Jg rfl ?_ | refine Jh rfl ?_ | refine Ji ?_ | refine Jj ?_ | refine Jk rfl ?_ | refine Jl ?_ | refine Jm ?_ | refine Jn rfl ?_ | refine Jo ?_ | refine Jp ?_ | refine Jq rfl ?_ | refine Jr ?_ | refine Js ?_ | refine Jt rfl ?_ | refine Ju ?_ | refine Jv ?_ | refine Jw ?_ | refine Jx rfl ?_ | refine Jy s0 ?_ | refine Sp.call (t) (.cons (.refl _) (.cons (.int (by omega)) .nil)) rfl (AvLe.refl _) ?_ | refine Jy z ?_ | refine Jy i ?_)
        refine ⟨⟨_, _, rfl, rfl, ?_⟩⟩
        exact AvLe.bool rfl
      · have z := Z_sp (-1472) (by omega) (by omega)
        have i := SameInt_sp (-1472) (by decide)
        rw [g, show tauL 4 = -1472 by decide] at t
        refine fn_sp (C := CX) [] [] tysX_ok mixed Tryz.func5 rfl (by kernel_rfl) Tryz.ntmps5 rfl rfl ?_
        repeat' ((conv => whnf); first | (refine Idx.mk ⟨5, by omega, by decide, ?_⟩) | (refine Idx.mk ⟨4, by omega, by decide, ?_⟩) | refine Ja ?_ | refine Jb ?_ | refine Jc ?_ | refine Jd ?_ | refine Je ?_ | refine Jf ?_ | refine Jg rfl ?_ | refine Jh rfl ?_ | refine Ji ?_ | refine Jj ?_ | refine Jk rfl ?_ | refine Jl ?_ | refine Jm ?_ | refine Jn rfl ?_ | refine Jo ?_ | refine Jp ?_ | refine Jq rfl ?_ | refine Jr ?_ | refine Js ?_ | refine Jt rfl ?_ | refine Ju ?_ | refine Jv ?_ | refine Jw ?_ | refine Jx rfl ?_ | refine Jy s0 ?_ | refine Sp.call (t) (.cons (.refl _) (.cons (.int (by omega)) .nil)) rfl (AvLe.refl _) ?_ | refine Jy z ?_ | refine Jy i ?_)
        refine ⟨⟨_, _, rfl, rfl, ?_⟩⟩
        exact AvLe.bool rfl
      · have z := Z_sp (4830) (by omega) (by omega)
        have i := SameInt_sp (4830) (by decide)
        rw [g, show tauL 5 = 4830 by decide] at t
        refine fn_sp (C := CX) [] [] tysX_ok mixed Tryz.func5 rfl (by kernel_rfl) Tryz.ntmps5 rfl rfl ?_
        repeat' ((conv => whnf); first | (refine Idx.mk ⟨5, by omega, by decide, ?_⟩) | (refine Idx.mk ⟨5, by omega, by decide, ?_⟩) | refine Ja ?_ | refine Jb ?_ | refine Jc ?_ | refine Jd ?_ | refine Je ?_ | refine Jf ?_ | refine Jg rfl ?_ | refine Jh rfl ?_ | refine Ji ?_ | refine Jj ?_ | refine Jk rfl ?_ | refine Jl ?_ | refine Jm ?_ | refine Jn rfl ?_ | refine Jo ?_ | refine Jp ?_ | refine Jq rfl ?_ | refine Jr ?_ | refine Js ?_ | refine Jt rfl ?_ | refine Ju ?_ | refine Jv ?_ | refine Jw ?_ | refine Jx rfl ?_ | refine Jy s0 ?_ | refine Sp.call (t) (.cons (.refl _) (.cons (.int (by omega)) .nil)) rfl (AvLe.refl _) ?_ | refine Jy z ?_ | refine Jy i ?_)
        refine ⟨⟨_, _, rfl, rfl, ?_⟩⟩
        exact AvLe.bool rfl
      · have z := Z_sp (-6048) (by omega) (by omega)
        have i := SameInt_sp (-6048) (by decide)
        rw [g, show tauL 6 = -6048 by decide] at t
        refine fn_sp (C := CX) [] [] tysX_ok mixed Tryz.func5 rfl (by kernel_rfl) Tryz.ntmps5 rfl rfl ?_
        repeat' ((conv => whnf); first | (refine Idx.mk ⟨5, by omega, by decide, ?_⟩) | (refine Idx.mk ⟨6, by omega, by decide, ?_⟩) | refine Ja ?_ | refine Jb ?_ | refine Jc ?_ | refine Jd ?_ | refine Je ?_ | refine Jf ?_ | refine Jg rfl ?_ | refine Jh rfl ?_ | refine Ji ?_ | refine Jj ?_ | refine Jk rfl ?_ | refine Jl ?_ | refine Jm ?_ | refine Jn rfl ?_ | refine Jo ?_ | refine Jp ?_ | refine Jq rfl ?_ | refine Jr ?_ | refine Js ?_ | refine Jt rfl ?_ | refine Ju ?_ | refine Jv ?_ | refine Jw ?_ | refine Jx rfl ?_ | refine Jy s0 ?_ | refine Sp.call (t) (.cons (.refl _) (.cons (.int (by omega)) .nil)) rfl (AvLe.refl _) ?_ | refine Jy z ?_ | refine Jy i ?_)
        refine ⟨⟨_, _, rfl, rfl, ?_⟩⟩
        exact AvLe.bool rfl
      · have z := Z_sp (-16744) (by omega) (by omega)
        have i := SameInt_sp (-16744) (by decide)
        rw [g, show tauL 7 = -16744 by decide] at t
        refine fn_sp (C := CX) [] [] tysX_ok mixed Tryz.func5 rfl (by kernel_rfl) Tryz.ntmps5 rfl rfl ?_
        repeat' ((conv => whnf); first | (refine Idx.mk ⟨5, by omega, by decide, ?_⟩) | (refine Idx.mk ⟨7, by omega, by decide, ?_⟩) | refine Ja ?_ | refine Jb ?_ | refine Jc ?_ | refine Jd ?_ | refine Je ?_ | refine Jf ?_ | refine Jg rfl ?_ | refine Jh rfl ?_ | refine Ji ?_ | refine Jj ?_ | refine Jk rfl ?_ | refine Jl ?_ | refine Jm ?_ | refine Jn rfl ?_ | refine Jo ?_ | refine Jp ?_ | refine Jq rfl ?_ | refine Jr ?_ | refine Js ?_ | refine Jt rfl ?_ | refine Ju ?_ | refine Jv ?_ | refine Jw ?_ | refine Jx rfl ?_ | refine Jy s0 ?_ | refine Sp.call (t) (.cons (.refl _) (.cons (.int (by omega)) .nil)) rfl (AvLe.refl _) ?_ | refine Jy z ?_ | refine Jy i ?_)
        refine ⟨⟨_, _, rfl, rfl, ?_⟩⟩
        exact AvLe.bool rfl
      · have z := Z_sp (84480) (by omega) (by omega)
        have i := SameInt_sp (84480) (by decide)
        rw [g, show tauL 8 = 84480 by decide] at t
        refine fn_sp (C := CX) [] [] tysX_ok mixed Tryz.func5 rfl (by kernel_rfl) Tryz.ntmps5 rfl rfl ?_
        repeat' ((conv => whnf); first | (refine Idx.mk ⟨5, by omega, by decide, ?_⟩) | (refine Idx.mk ⟨8, by omega, by decide, ?_⟩) | refine Ja ?_ | refine Jb ?_ | refine Jc ?_ | refine Jd ?_ | refine Je ?_ | refine Jf ?_ | refine Jg rfl ?_ | refine Jh rfl ?_ | refine Ji ?_ | refine Jj ?_ | refine Jk rfl ?_ | refine Jl ?_ | refine Jm ?_ | refine Jn rfl ?_ | refine Jo ?_ | refine Jp ?_ | refine Jq rfl ?_ | refine Jr ?_ | refine Js ?_ | refine Jt rfl ?_ | refine Ju ?_ | refine Jv ?_ | refine Jw ?_ | refine Jx rfl ?_ | refine Jy s0 ?_ | refine Sp.call (t) (.cons (.refl _) (.cons (.int (by omega)) .nil)) rfl (AvLe.refl _) ?_ | refine Jy z ?_ | refine Jy i ?_)
        refine ⟨⟨_, _, rfl, rfl, ?_⟩⟩
        exact AvLe.bool rfl
      · have z := Z_sp (-113643) (by omega) (by omega)
        have i := SameInt_sp (-113643) (by decide)
        rw [g, show tauL 9 = -113643 by decide] at t
        refine fn_sp (C := CX) [] [] tysX_ok mixed Tryz.func5 rfl (by kernel_rfl) Tryz.ntmps5 rfl rfl ?_
        repeat' ((conv => whnf); first | (refine Idx.mk ⟨5, by omega, by decide, ?_⟩) | (refine Idx.mk ⟨9, by omega, by decide, ?_⟩) | refine Ja ?_ | refine Jb ?_ | refine Jc ?_ | refine Jd ?_ | refine Je ?_ | refine Jf ?_ | refine Jg rfl ?_ | refine Jh rfl ?_ | refine Ji ?_ | refine Jj ?_ | refine Jk rfl ?_ | refine Jl ?_ | refine Jm ?_ | refine Jn rfl ?_ | refine Jo ?_ | refine Jp ?_ | refine Jq rfl ?_ | refine Jr ?_ | refine Js ?_ | refine Jt rfl ?_ | refine Ju ?_ | refine Jv ?_ | refine Jw ?_ | refine Jx rfl ?_ | refine Jy s0 ?_ | refine Sp.call (t) (.cons (.refl _) (.cons (.int (by omega)) .nil)) rfl (AvLe.refl _) ?_ | refine Jy z ?_ | refine Jy i ?_)
        refine ⟨⟨_, _, rfl, rfl, ?_⟩⟩
        exact AvLe.bool rfl
      · have z := Z_sp (-115920) (by omega) (by omega)
        have i := SameInt_sp (-115920) (by decide)
        rw [g, show tauL 10 = -115920 by decide] at t
        refine fn_sp (C := CX) [] [] tysX_ok mixed Tryz.func5 rfl (by kernel_rfl) Tryz.ntmps5 rfl rfl ?_
        repeat' ((conv => whnf); first | (refine Idx.mk ⟨5, by omega, by decide, ?_⟩) | (refine Idx.mk ⟨10, by omega, by decide, ?_⟩) | refine Ja ?_ | refine Jb ?_ | refine Jc ?_ | refine Jd ?_ | refine Je ?_ | refine Jf ?_ | refine Jg rfl ?_ | refine Jh rfl ?_ | refine Ji ?_ | refine Jj ?_ | refine Jk rfl ?_ | refine Jl ?_ | refine Jm ?_ | refine Jn rfl ?_ | refine Jo ?_ | refine Jp ?_ | refine Jq rfl ?_ | refine Jr ?_ | refine Js ?_ | refine Jt rfl ?_ | refine Ju ?_ | refine Jv ?_ | refine Jw ?_ | refine Jx rfl ?_ | refine Jy s0 ?_ | refine Sp.call (t) (.cons (.refl _) (.cons (.int (by omega)) .nil)) rfl (AvLe.refl _) ?_ | refine Jy z ?_ | refine Jy i ?_)
        refine ⟨⟨_, _, rfl, rfl, ?_⟩⟩
        exact AvLe.bool rfl
  · have a := one_at (k := 14) (m := m) (by omega) (by omega) (by omega) m1 m2
    have e := a.1 (by omega)
    have t := Trace_ok 1 14 m 1 (dok_one (by omega) (by omega) (by omega)) m1 (by omega) (Nat.gcd_one_right _) (by rw [e]; exact ⟨0, rfl⟩)
    rw [e, show (0 : Int) / 12 = 0 by decide] at t
    clear a e
    refine fn_sp (C := CX) [] [] tysX_ok mixed Tryz.func5 rfl (by kernel_rfl) Tryz.ntmps5 rfl rfl ?_
    repeat' ((conv => whnf); first | (refine Idx.mk ⟨6, by omega, by decide, ?_⟩) | refine Ja ?_ | refine Jb ?_ | refine Jc ?_ | refine Jd ?_ | refine Je ?_ | refine Jf ?_ | refine Jg rfl ?_ | refine Jh rfl ?_ | refine Ji ?_ | refine Jj ?_ | refine Jk rfl ?_ | refine Jl ?_ | refine Jm ?_ | refine Jn rfl ?_ | refine Jo ?_ | refine Jp ?_ | refine Jq rfl ?_ | refine Jr ?_ | refine Js ?_ | refine Jt rfl ?_ | refine Ju ?_ | refine Jv ?_ | refine Jw ?_ | refine Jx rfl ?_ | refine Jy s0 ?_ | refine Sp.call (t) (.cons (.refl _) (.cons (.int em2) .nil)) rfl (AvLe.refl _) ?_ | refine Jy z0 ?_ | refine Jy i0 ?_)
    refine ⟨⟨_, _, rfl, rfl, ?_⟩⟩
    exact AvLe.bool rfl
end Go.Proofs.YtjijdabbhfefjaaGreatDoor
