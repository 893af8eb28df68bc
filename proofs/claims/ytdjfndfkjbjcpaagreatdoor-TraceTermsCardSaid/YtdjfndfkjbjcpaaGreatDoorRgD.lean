/- Fractions of the reference in letters: Over, Normal, Neg, Add, Sub, Mul; fractions at hand. -/
import Derived.Test.YtdjfndfkjbjcpaaGreatDoorRgE
namespace Go.Proofs.YtdjfndfkjbjcpaaGreatDoor
open Go Go.RowKit Go.VG HP
theorem Over2_sp (n d : Int) (hd : 0 < d) (hn : ln n.natAbs ≤ 2000) (hd2 : ln d.natAbs ≤ 2000) : Sp CX 64 [zA n, zA d] (qA (Rat.divInt n d)) := by
  have sg := rSign_sp d (by omega)
  rw [Int.sign_eq_one_of_pos hd] at sg
  have g := rGcdB_sp n d hn hd2
  have o := rOf1_sp
  have g0 : 0 < Int.gcd n d := Int.gcd_pos_of_ne_zero_right n (by omega)
  have gl : Int.gcd n d ≤ d.natAbs := Nat.le_of_dvd (by omega) (Nat.gcd_dvd_right _ _)
  have lg : ln (Int.gcd n d) ≤ 2000 := Nat.le_trans (ln_mono gl) hd2
  have sm := rSame1_sp (Int.gcd n d) (by omega)
  by_cases h1 : Int.gcd n d = 1
  · obtain ⟨c1, c2⟩ := over_cop hd h1
    rw [decide_eq_true h1] at sm
    have n1 := rNorm_z n (by omega)
    have n2 := rNorm_z d (by omega)
    clear h1 gl lg
    generalize Int.gcd n d = G at *
    refine fn_sp (C := CX) [] [] tysX_ok mixed Tryz.func64 rfl (by kernel_rfl) Tryz.ntmps64 rfl rfl ?_
    repeat' ((conv => whnf); first | refine Je ?_ | refine Jf ?_ | refine Ji ?_ | refine Jj ?_ | refine Jk rfl ?_ | refine Jy sg ?_ | refine Jy g ?_ | refine Jy o ?_ | refine Jy sm ?_ | refine Jy n1 ?_ | refine Jy n2 ?_)
    refine ⟨⟨_, _, rfl, rfl, ?_⟩⟩
    exact qA_mk c1.symm c2.symm
  · obtain ⟨c1, c2⟩ := over_num (n := n) hd
    rw [decide_eq_false h1] at sm
    have d1 := rDivided_sp n (Int.gcd n d) g0 hn lg (Int.gcd_dvd_left n d)
    have d2 := rDivided_sp d (Int.gcd n d) g0 hd2 lg (Int.gcd_dvd_right n d)
    clear h1 gl lg
    generalize n / ((Int.gcd n d : Nat) : Int) = N at *
    generalize d / ((Int.gcd n d : Nat) : Int) = D at *
    generalize Int.gcd n d = G at *
    refine fn_sp (C := CX) [] [] tysX_ok mixed Tryz.func64 rfl (by kernel_rfl) Tryz.ntmps64 rfl rfl ?_
    repeat' ((conv => whnf); first | refine Jf ?_ | refine Ji ?_ | refine Jj ?_ | refine Jk rfl ?_ | refine Jy sg ?_ | refine Jy g ?_ | refine Jy o ?_ | refine Jy sm ?_ | refine Jy d1 ?_ | refine Jy d2 ?_)
    refine ⟨⟨_, _, rfl, rfl, ?_⟩⟩
    exact qA_mk c1.symm c2.symm
theorem den_pos (q : Rat) : 0 < (q.den : Int) := by have := q.den_nz; omega
theorem Normal2_sp (q : Rat) (h : QB 2000 q) : Sp CX 63 [qA q] (qA q) := by
  have o := Over2_sp q.num q.den (den_pos q) h.1 h.2
  rw [over_self] at o
  refine fn_sp (C := CX) [] [] tysX_ok mixed Tryz.func63 rfl (by kernel_rfl) Tryz.ntmps63 rfl rfl ?_
  repeat' ((conv => whnf); first | refine Ja ?_ | refine Jy o ?_)
  refine ⟨⟨_, _, rfl, rfl, ?_⟩⟩
  exact AvLe.refl _
theorem Neg2_sp (q : Rat) (h : QB 2000 q) : Sp CX 139 [qA q] (qA (-q)) := by
  have s := rNeg_sp q.num (by have := h.1; omega)
  have o := Over2_sp (-q.num) q.den (den_pos q) (by rw [Int.natAbs_neg]; exact h.1) h.2
  rw [← rat_neg] at o
  refine fn_sp (C := CX) [] [] tysX_ok mixed Tryz.func139 rfl (by kernel_rfl) Tryz.ntmps139 rfl rfl ?_
  repeat' ((conv => whnf); first | refine Ji ?_ | refine Jj ?_ | refine Jk rfl ?_ | refine Jy s ?_ | refine Jy o ?_)
  refine ⟨⟨_, _, rfl, rfl, ?_⟩⟩
  exact AvLe.refl _
theorem Mul2_sp (a b : Rat) (ha : QB 900 a) (hb : QB 900 b) : Sp CX 56 [qA a, qA b] (qA (a * b)) := by
  have a1 := ha.1; have a2 := ha.2; have b1 := hb.1; have b2 := hb.2
  have m1 := rMul_sp a.num b.num (by omega) (by omega)
  have m3 := rMul_sp a.den b.den (by show ln a.den ≤ _; omega) (by show ln b.den ≤ _; omega)
  have l1 : ln (a.num * b.num).natAbs ≤ 1800 := by
    rw [Int.natAbs_mul]
    have := ln_mul a.num.natAbs b.num.natAbs
    omega
  have l3 : ln ((a.den : Int) * b.den).natAbs ≤ 1800 := by
    rw [natAbs_den]
    have := ln_mul a.den b.den
    omega
  have o := Over2_sp (a.num * b.num) ((a.den : Int) * b.den) (Int.mul_pos (den_pos a) (den_pos b)) (by omega) (by omega)
  rw [← rat_mul] at o
  refine fn_sp (C := CX) [] [] tysX_ok mixed Tryz.func56 rfl (by kernel_rfl) Tryz.ntmps56 rfl rfl ?_
  repeat' ((conv => whnf); first | refine Ji ?_ | refine Jj ?_ | refine Jk rfl ?_ | refine Jy m1 ?_ | refine Jy m3 ?_ | refine Jy o ?_)
  refine ⟨⟨_, _, rfl, rfl, ?_⟩⟩
  exact AvLe.refl _
set_option maxHeartbeats 4000000 in
theorem Add2_sp (a b : Rat) (ha : QB 900 a) (hb : QB 900 b) : Sp CX 27 [qA a, qA b] (qA (a + b)) := by
  have a1 := ha.1; have a2 := ha.2; have b1 := hb.1; have b2 := hb.2
  have n1 := Normal2_sp a (ha.mono (by omega))
  have n2 := Normal2_sp b (hb.mono (by omega))
  have m1 := rMul_sp a.num b.den (by omega) (by show ln b.den ≤ _; omega)
  have m2 := rMul_sp b.num a.den (by omega) (by show ln a.den ≤ _; omega)
  have m3 := rMul_sp a.den b.den (by show ln a.den ≤ _; omega) (by show ln b.den ≤ _; omega)
  have l1 : ln (a.num * b.den).natAbs ≤ 1800 := by
    rw [Int.natAbs_mul]
    have := ln_mul a.num.natAbs b.den
    show ln (a.num.natAbs * b.den) ≤ _
    omega
  have l2 : ln (b.num * a.den).natAbs ≤ 1800 := by
    rw [Int.natAbs_mul]
    have := ln_mul b.num.natAbs a.den
    show ln (b.num.natAbs * a.den) ≤ _
    omega
  have l3 : ln ((a.den : Int) * b.den).natAbs ≤ 1800 := by
    rw [natAbs_den]
    have := ln_mul a.den b.den
    omega
  have l4 : ln (a.num * b.den + b.num * a.den).natAbs ≤ 1801 := by
    have h := ln_mono (Int.natAbs_add_le (a.num * b.den) (b.num * a.den))
    have := ln_add (a.num * b.den).natAbs (b.num * a.den).natAbs
    omega
  have s := rAdd_sp (a.num * b.den) (b.num * a.den) (by omega) (by omega)
  have o := Over2_sp (a.num * b.den + b.num * a.den) ((a.den : Int) * b.den) (Int.mul_pos (den_pos a) (den_pos b)) (by omega) (by omega)
  rw [← rat_add] at o
  refine fn_sp (C := CX) [] [] tysX_ok mixed Tryz.func27 rfl (by kernel_rfl) Tryz.ntmps27 rfl rfl ?_
  repeat' ((conv => whnf); first | refine Ji ?_ | refine Jj ?_ | refine Jk rfl ?_ | refine Jl ?_ | refine Jo ?_ | refine Jq rfl ?_ | refine Jr ?_ | refine Js ?_ | refine Jt rfl ?_ | refine Jy n1 ?_ | refine Jy n2 ?_ | refine Jy m1 ?_ | refine Jy m2 ?_ | refine Jy m3 ?_ | refine Jy s ?_ | refine Jy o ?_)
  refine ⟨⟨_, _, rfl, rfl, ?_⟩⟩
  exact AvLe.refl _
theorem Sub2_sp (a b : Rat) (ha : QB 900 a) (hb : QB 900 b) : Sp CX 102 [qA a, qA b] (qA (a - b)) := by
  have n := Neg2_sp b (hb.mono (by omega))
  have s := Add2_sp a (-b) ha hb.neg
  rw [← rat_sub] at s
  refine fn_sp (C := CX) [] [] tysX_ok mixed Tryz.func102 rfl (by kernel_rfl) Tryz.ntmps102 rfl rfl ?_
  repeat' ((conv => whnf); first | refine Ji ?_ | refine Jj ?_ | refine Jk rfl ?_ | refine Jy n ?_ | refine Jy s ?_)
  refine ⟨⟨_, _, rfl, rfl, ?_⟩⟩
  exact AvLe.refl _
theorem bQ_sp (n : Int) (h1 : -9223372036854775808 ≤ n) (h2 : n ≤ 9223372036854775807) : Sp CX 25 [int .i64 n] (qA (n : Rat)) := by
  have z1 := Z_sp n h1 h2
  have z2 := Z_sp 1 (by omega) (by omega)
  refine fn_sp (C := CX) [] [] tysX_ok mixed Tryz.func25 rfl (by kernel_rfl) Tryz.ntmps25 rfl rfl ?_
  repeat' ((conv => whnf); first | refine Ja ?_ | refine Jy z1 ?_ | refine Jy z2 ?_)
  refine ⟨⟨_, _, rfl, rfl, ?_⟩⟩
  exact qA_mk rfl rfl
end Go.Proofs.YtdjfndfkjbjcpaaGreatDoor
