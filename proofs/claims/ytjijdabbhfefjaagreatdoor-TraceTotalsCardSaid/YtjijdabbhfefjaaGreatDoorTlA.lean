/- The statements about traces: the fixed calls; dimensions. -/
import Derived.Test.YtjijdabbhfefjaaGreatDoorTcE
import Derived.Test.YtjijdabbhfefjaaGreatDoorPkTrF
import Derived.Test.YtjijdabbhfefjaaGreatDoorPkBnA
namespace Go.Proofs.YtjijdabbhfefjaaGreatDoor
open Go Go.RowKit Go.VG HP
theorem T12_K {N k n : Nat} {Δ : Int} (ok : DOk N k Δ) (hn : Nat.gcd n N = 1) (n1 : 1 ≤ n) (n2 : n ≤ 128) :
    T12 N k Δ n = totP N k Δ n (tabA N (chiR N Δ N) n (tabT n (2 * n + 3))) (tabH N Δ n (dvs N) (dvs n)) := T12_P ok.n0 ok.n1 ok.dz ok.d4 ok.dvd hn n1 n2
theorem dok_one {k : Nat} (h1 : 2 ≤ k) (h2 : k ≤ 24) (h3 : k % 2 = 0) : DOk 1 k 1 := by
  refine ⟨by omega, by omega, h1, h2, by omega, by omega, by omega, by omega, .inl rfl, by decide, by omega, ?_⟩
  rw [psi_C (by omega) (by omega), show prodC psiF 1 = 1 by decide +kernel]
  omega
theorem awk32a : T12 11 2 1 2 = -24 := by
  rw [T12_K dok3 (by decide) (by omega) (by omega)]
  decide +kernel
theorem awk32b : T12 1 12 1 2 = -288 := by
  rw [T12_K (dok_one (by omega) (by omega) (by omega)) (by decide) (by omega) (by omega)]
  decide +kernel
theorem awk32c : fixZ 11 = 4 := by decide +kernel
theorem tawake_sp : Sp CX 12 [] (bool true) := by
  have s1 := Trace_ok 11 2 2 1 dok3 (by omega) (by omega) (by decide) (by rw [awk32a]; decide)
  have s2 := Trace_ok 1 12 2 1 (dok_one (by omega) (by omega) (by omega)) (by omega) (by omega) (by decide) (by rw [awk32b]; decide)
  have s3 := Fixed_ok 11 (by omega) (by omega)
  rw [awk32a] at s1
  rw [awk32b] at s2
  rw [awk32c] at s3
  have z1 := Z_sp (-2) (by omega) (by omega)
  have z2 := Z_sp (-24) (by omega) (by omega)
  have e1 := SameInt_sp (-2) (by decide)
  have e2 := SameInt_sp (-24) (by decide)
  refine fn_sp (C := CX) [] [] tysX_ok mixed Tryz.func12 rfl (by kernel_rfl) Tryz.ntmps12 rfl rfl ?_
  repeat' ((conv => whnf); first | refine Ja ?_ | refine Jb ?_ | refine Jc ?_ | refine Jd ?_ | refine Je ?_ | refine Jf ?_ | refine Jg rfl ?_ | refine Jh rfl ?_ | refine Ji ?_ | refine Jj ?_ | refine Jk rfl ?_ | refine Jl ?_ | refine Jm ?_ | refine Jn rfl ?_ | refine Jo ?_ | refine Jp ?_ | refine Jq rfl ?_ | refine Jr ?_ | refine Js ?_ | refine Jt rfl ?_ | refine Ju ?_ | refine Jv ?_ | refine Jw ?_ | refine Jx rfl ?_ | refine Jy s1 ?_ | refine Jy s2 ?_ | refine Jy s3 ?_ | refine Jy z1 ?_ | refine Jy z2 ?_ | refine Jy e1 ?_ | refine Jy e2 ?_)
  refine ⟨⟨_, _, rfl, rfl, ?_⟩⟩
  exact AvLe.bool rfl
theorem dim_chk : pairB dimB = true := by decide +kernel
theorem dim_T12 {N k : Nat} {Δ : Int} (ok : DOk N k Δ) : T12 N k Δ 1 = 12 * cuspV N k Δ := by
  have h := pair_at dim_chk ok
  have h2 : decide (T12 N k Δ 1 = 12 * cuspC N k Δ) = true := atN_at (n := 1) (Δ := Δ) (chk := fun k z => decide (z = 12 * (dimT k Δ.natAbs (prodC psiF N) (prodC (lamG Δ.natAbs) N) (fourC N Δ) (threeC N Δ)).tdiv 12)) h ok (Nat.gcd_one_left _) (by omega) (by omega)
  rw [cusp_C ok.n0 ok.n1 ok.dz]
  exact of_decide_eq_true h2
theorem law_tdim (L K D : Int) : Sp CX 7 [specA L K D] (bool true) := by
  have s0 := tawake_sp
  by_cases h : dchk L K D = 0
  · obtain ⟨N, k, rfl, rfl, ok⟩ := dchk_out h
    have e := dim_T12 ok
    have t := Trace_ok N k 1 D ok (by omega) (by omega) (Nat.gcd_one_left _) (by rw [e]; exact ⟨_, rfl⟩)
    have c := cusp_ok N k D ok
    rw [e, Int.mul_ediv_cancel_left _ (by omega)] at t
    have b := cuspV_bd D ok.n0 ok.n1 (show 1 ≤ k by have := ok.k0; omega) ok.k1
    have z := Z_sp (cuspV N k D) (by omega) (by omega)
    have i := SameInt_sp (cuspV N k D) (by have := ln64 (n := cuspV N k D) (by omega) (by omega); omega)
    clear h e ok
    generalize cuspV N k D = X at *
    refine fn_sp (C := CX) [] [] tysX_ok mixed Tryz.func7 rfl (by kernel_rfl) Tryz.ntmps7 rfl rfl ?_
    repeat' ((conv => whnf); first | refine Ja ?_ | refine Jb ?_ | refine Jc ?_ | refine Jd ?_ | refine Je ?_ | refine Jf ?_ | refine Jg rfl ?_ | refine Jh rfl ?_ | refine Ji ?_ | refine Jj ?_ | refine Jk rfl ?_ | refine Jl ?_ | refine Jm ?_ | refine Jn rfl ?_ | refine Jo ?_ | refine Jp ?_ | refine Jq rfl ?_ | refine Jr ?_ | refine Js ?_ | refine Jt rfl ?_ | refine Ju ?_ | refine Jv ?_ | refine Jw ?_ | refine Jx rfl ?_ | refine Jy s0 ?_ | refine Jy t ?_ | refine Jy c ?_ | refine Jy z ?_ | refine Jy i ?_)
    refine ⟨⟨_, _, rfl, rfl, ?_⟩⟩
    exact AvLe.bool rfl
  · have t := Trace_bad L K D 1 (by unfold trE; rw [if_pos h]; exact h)
    have e : trE L K D 1 = dchk L K D := by unfold trE; rw [if_pos h]
    rw [e] at t
    have c := cusp_bad L K D h
    clear e
    generalize dchk L K D = e at *
    refine fn_sp (C := CX) [] [] tysX_ok mixed Tryz.func7 rfl (by kernel_rfl) Tryz.ntmps7 rfl rfl ?_
    repeat' ((conv => whnf); first | refine Ja ?_ | refine Jb ?_ | refine Jc ?_ | refine Jd ?_ | refine Je ?_ | refine Jf ?_ | refine Jg rfl ?_ | refine Jh rfl ?_ | refine Ji ?_ | refine Jj ?_ | refine Jk rfl ?_ | refine Jl ?_ | refine Jm ?_ | refine Jn rfl ?_ | refine Jo ?_ | refine Jp ?_ | refine Jq rfl ?_ | refine Jr ?_ | refine Js ?_ | refine Jt rfl ?_ | refine Ju ?_ | refine Jv ?_ | refine Jw ?_ | refine Jx rfl ?_ | refine Jy s0 ?_ | refine Jy t ?_ | refine Jy c ?_)
    refine ⟨⟨_, _, rfl, rfl, ?_⟩⟩
    exact AvLe.bool rfl
end Go.Proofs.YtjijdabbhfefjaaGreatDoor
