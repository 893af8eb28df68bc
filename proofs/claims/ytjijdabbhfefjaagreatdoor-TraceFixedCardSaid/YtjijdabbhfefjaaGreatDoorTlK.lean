/- The statements about traces: fixed points. -/
import Derived.Test.YtjijdabbhfefjaaGreatDoorTlA
import Derived.Test.YtjijdabbhfefjaaGreatDoorQfR
import Derived.Test.YtjijdabbhfefjaaGreatDoorDmN
import Derived.Test.YtjijdabbhfefjaaGreatDoorPkTrJ
namespace Go.Proofs.YtjijdabbhfefjaaGreatDoor
open Go Go.RowKit Go.VG HP
theorem rFixed_bad (n : Int) (h : n < 5 ∨ 120 < n) : Sp CX 23 [int .i64 n] (.tup [.c (ix 0), .c (ix 2)]) := by
  by_cases h3 : n < 5
  · refine fn_sp (C := CX) [] [] tysX_ok mixed Tryz.func23 rfl (by kernel_rfl) Tryz.ntmps23 rfl rfl ?_
    repeat' ((conv => whnf); first | refine Ja ?_ | refine Jb ?_ | refine Jc ?_ | refine Jd ?_ | refine Je ?_ | refine Jf ?_ | refine Jg rfl ?_ | refine Jh rfl ?_ | refine Ji ?_ | refine Jj ?_ | refine Jk rfl ?_ | refine Jl ?_ | refine Jm ?_ | refine Jn rfl ?_ | refine Jo ?_ | refine Jp ?_ | refine Jq rfl ?_ | refine Jr ?_ | refine Js ?_ | refine Jt rfl ?_ | refine Ju ?_ | refine Jv ?_ | refine Jw ?_ | refine Jx rfl ?_)
    refine ⟨⟨_, _, rfl, rfl, ?_⟩⟩
    exact AvLe.refl _
  · refine fn_sp (C := CX) [] [] tysX_ok mixed Tryz.func23 rfl (by kernel_rfl) Tryz.ntmps23 rfl rfl ?_
    repeat' ((conv => whnf); first | refine Ja ?_ | refine Jb ?_ | refine Jc ?_ | refine Jd ?_ | refine Je ?_ | refine Jf ?_ | refine Jg rfl ?_ | refine Jh rfl ?_ | refine Ji ?_ | refine Jj ?_ | refine Jk rfl ?_ | refine Jl ?_ | refine Jm ?_ | refine Jn rfl ?_ | refine Jo ?_ | refine Jp ?_ | refine Jq rfl ?_ | refine Jr ?_ | refine Js ?_ | refine Jt rfl ?_ | refine Ju ?_ | refine Jv ?_ | refine Jw ?_ | refine Jx rfl ?_)
    refine ⟨⟨_, _, rfl, rfl, ?_⟩⟩
    exact AvLe.refl _
theorem rFixed_ok (n : Nat) (h1 : 5 ≤ n) (h2 : n ≤ 120) : Sp CX 23 [int .i64 n] (.tup [.c (ix (fixZ n)), .c (ix 0)]) := by
  have s1 := rClasses_sp (4 * n) (by omega)
  have l1 := clsN_le (D := 4 * n) (by omega)
  have em : (n : Int).tmod 4 = ((n % 4 : Nat) : Int) := (Int.ofNat_tmod n 4).symm
  unfold fixZ
  by_cases h : n % 4 = 3
  · have s2 := rClasses_sp n (by omega)
    have l2 := clsN_le (D := n) (by omega)
    rw [if_pos h]
    generalize clsN n = B at *
    generalize clsN (4 * n) = A at *
    refine fn_sp (C := CX) [] [] tysX_ok mixed Tryz.func23 rfl (by kernel_rfl) Tryz.ntmps23 rfl rfl ?_
    repeat' ((conv => whnf); first | refine Ja ?_ | refine Jb ?_ | refine Jc ?_ | refine Jd ?_ | refine Je ?_ | refine Jf ?_ | refine Jg rfl ?_ | refine Jh rfl ?_ | refine Ji ?_ | refine Jj ?_ | refine Jk rfl ?_ | refine Jl ?_ | refine Jm ?_ | refine Jn rfl ?_ | refine Jo ?_ | refine Jp ?_ | refine Jq rfl ?_ | refine Jr ?_ | refine Js ?_ | refine Jt rfl ?_ | refine Ju ?_ | refine Jv ?_ | refine Jw ?_ | refine Jx rfl ?_ | refine Sp.call (s1) (.cons (.int (by omega)) .nil) rfl (AvLe.refl _) ?_ | refine Jy s2 ?_)
    refine ⟨⟨_, _, rfl, rfl, ?_⟩⟩
    exact AvLe.refl _
  · rw [if_neg h]
    generalize clsN (4 * n) = A at *
    refine fn_sp (C := CX) [] [] tysX_ok mixed Tryz.func23 rfl (by kernel_rfl) Tryz.ntmps23 rfl rfl ?_
    repeat' ((conv => whnf); first | refine Ja ?_ | refine Jb ?_ | refine Jc ?_ | refine Jd ?_ | refine Je ?_ | refine Jf ?_ | refine Jg rfl ?_ | refine Jh rfl ?_ | refine Ji ?_ | refine Jj ?_ | refine Jk rfl ?_ | refine Jl ?_ | refine Jm ?_ | refine Jn rfl ?_ | refine Jo ?_ | refine Jp ?_ | refine Jq rfl ?_ | refine Jr ?_ | refine Js ?_ | refine Jt rfl ?_ | refine Ju ?_ | refine Jv ?_ | refine Jw ?_ | refine Jx rfl ?_ | refine Sp.call (s1) (.cons (.int (by omega)) .nil) rfl (AvLe.refl _) ?_)
    refine ⟨⟨_, _, rfl, rfl, ?_⟩⟩
    exact .tup (.cons (.int (by omega)) (.cons (.refl _) .nil))
theorem genus0_sp (n : Nat) (n0 : 1 ≤ n) (n1 : n ≤ 120) : Sp CX 24 [int .i64 n] (.tup [.c (ix (cuspV n 2 1)), .c (ix 0)]) := by
  have s := form0_ok n n0 n1
  rw [← (gen_eq n0 n1).1] at s
  refine fn_sp (C := CX) [] [] tysX_ok mixed Tryz.func24 rfl (by kernel_rfl) Tryz.ntmps24 rfl rfl ?_
  repeat' ((conv => whnf); first | refine Ja ?_ | refine Jb ?_ | refine Jc ?_ | refine Jd ?_ | refine Je ?_ | refine Jf ?_ | refine Jg rfl ?_ | refine Jh rfl ?_ | refine Ji ?_ | refine Jj ?_ | refine Jk rfl ?_ | refine Jl ?_ | refine Jm ?_ | refine Jn rfl ?_ | refine Jo ?_ | refine Jp ?_ | refine Jq rfl ?_ | refine Jr ?_ | refine Js ?_ | refine Jt rfl ?_ | refine Ju ?_ | refine Jv ?_ | refine Jw ?_ | refine Jx rfl ?_ | refine Jy s ?_)
  refine ⟨⟨_, _, rfl, rfl, ?_⟩⟩
  exact AvLe.refl _
theorem fix_chk : allB 121 (fun n => Nat.blt n 5 || (decide ((2 + 2 * cuspC n 2 1 - fixZ n) % 4 = 0) && decide (0 ≤ 2 + 2 * cuspC n 2 1 - fixZ n))) = true := by decide +kernel
theorem fix_fact {n : Nat} (h1 : 5 ≤ n) (h2 : n ≤ 120) : (2 + 2 * cuspV n 2 1 - fixZ n) % 4 = 0 ∧ 0 ≤ 2 + 2 * cuspV n 2 1 - fixZ n := by
  have h := allB_at fix_chk (show n < 121 by omega)
  rw [blt_f (show ¬ n < 5 by omega), Bool.false_or, Bool.and_eq_true] at h
  rw [cusp_C (by omega) h2 (by omega)]
  exact ⟨of_decide_eq_true h.1, of_decide_eq_true h.2⟩
theorem law_tfix (n : Int) : Sp CX 6 [int .i64 n] (bool true) := by
  have s0 := tawake_sp
  by_cases h : n < 5 ∨ 120 < n
  · have s1 := Fixed_bad n h
    have s2 := rFixed_bad n h
    refine fn_sp (C := CX) [] [] tysX_ok mixed Tryz.func6 rfl (by kernel_rfl) Tryz.ntmps6 rfl rfl ?_
    repeat' ((conv => whnf); first | refine Ja ?_ | refine Jb ?_ | refine Jc ?_ | refine Jd ?_ | refine Je ?_ | refine Jf ?_ | refine Jg rfl ?_ | refine Jh rfl ?_ | refine Ji ?_ | refine Jj ?_ | refine Jk rfl ?_ | refine Jl ?_ | refine Jm ?_ | refine Jn rfl ?_ | refine Jo ?_ | refine Jp ?_ | refine Jq rfl ?_ | refine Jr ?_ | refine Js ?_ | refine Jt rfl ?_ | refine Ju ?_ | refine Jv ?_ | refine Jw ?_ | refine Jx rfl ?_ | refine Jy s0 ?_ | refine Jy s1 ?_ | refine Jy s2 ?_)
    refine ⟨⟨_, _, rfl, rfl, ?_⟩⟩
    exact AvLe.bool rfl
  · obtain ⟨m, rfl⟩ := Int.eq_ofNat_of_zero_le (a := n) (by omega)
    have s1 := Fixed_ok m (by omega) (by omega)
    have s2 := rFixed_ok m (by omega) (by omega)
    have s3 := genus0_sp m (by omega) (by omega)
    obtain ⟨f1, f2⟩ := fix_fact (n := m) (by omega) (by omega)
    have b := cuspV_bd (n := m) (k := 2) 1 (by omega) (by omega) (by omega) (by omega)
    have bf : 0 ≤ fixZ m ∧ fixZ m ≤ 3000 := by
      have l1 := clsN_le (D := 4 * m) (by omega)
      have l2 := clsN_le (D := m) (by omega)
      unfold fixZ
      split <;> omega
    generalize cuspV m 2 1 = g at *
    generalize fixZ m = k at *
    have t0 : (2 + 2 * g - k).tmod 4 = 0 := by
      rw [Int.tmod_eq_emod_of_nonneg f2]
      exact f1
    refine fn_sp (C := CX) [] [] tysX_ok mixed Tryz.func6 rfl (by kernel_rfl) Tryz.ntmps6 rfl rfl ?_
    repeat' ((conv => whnf); first | refine Ja ?_ | refine Jb ?_ | refine Jc ?_ | refine Jd ?_ | refine Je ?_ | refine Jf ?_ | refine Jg rfl ?_ | refine Jh rfl ?_ | refine Ji ?_ | refine Jj ?_ | refine Jk rfl ?_ | refine Jl ?_ | refine Jm ?_ | refine Jn rfl ?_ | refine Jo ?_ | refine Jp ?_ | refine Jq rfl ?_ | refine Jr ?_ | refine Js ?_ | refine Jt rfl ?_ | refine Ju ?_ | refine Jv ?_ | refine Jw ?_ | refine Jx rfl ?_ | refine Jy s0 ?_ | refine Jy s1 ?_ | refine Jy s2 ?_ | refine Jy s3 ?_)
    refine ⟨⟨_, _, rfl, rfl, ?_⟩⟩
    exact AvLe.bool (decide_eq_true f2)
end Go.Proofs.YtjijdabbhfefjaaGreatDoor
