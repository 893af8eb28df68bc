/- The statements about traces: squares. -/
import Derived.Test.YtjijdabbhfefjaaGreatDoorTlA
import Derived.Test.YtjijdabbhfefjaaGreatDoorTsL
import Derived.Test.YtjijdabbhfefjaaGreatDoorPkVgY
namespace Go.Proofs.YtjijdabbhfefjaaGreatDoor
open Go Go.RowKit Go.VG HP
set_option maxHeartbeats 4000000 in
theorem sq2_walk (L K D d e : Int) (i : Nat) (hi : i % 5 = 0) (c : Sp CX 25 [specA L K D] (.tup [.c (ix d), .c (ix e)])) (h : e ≠ 0 ∨ d ≠ 1) : Sp CX 9 [specA L K D, int .u8 i] (bool true) := by
  have s0 := tawake_sp
  have em : (i : Int).tmod 5 = ((i % 5 : Nat) : Int) := (Int.ofNat_tmod i 5).symm
  by_cases h1 : e = 0
  · have h2 : ¬ d = 1 := by omega
    refine fn_sp (C := CX) [] [] tysX_ok mixed Tryz.func9 rfl (by kernel_rfl) Tryz.ntmps9 rfl rfl ?_
    repeat' ((conv => whnf); first | (refine Idx.mk ⟨0, by omega, by decide, ?_⟩) | refine Ja ?_ | refine Jb ?_ | refine Jc ?_ | refine Jd ?_ | refine Je ?_ | refine Jf ?_ | refine Jg rfl ?_ | refine Jh rfl ?_ | refine Ji ?_ | refine Jj ?_ | refine Jk rfl ?_ | refine Jl ?_ | refine Jm ?_ | refine Jn rfl ?_ | refine Jo ?_ | refine Jp ?_ | refine Jq rfl ?_ | refine Jr ?_ | refine Js ?_ | refine Jt rfl ?_ | refine Ju ?_ | refine Jv ?_ | refine Jw ?_ | refine Jx rfl ?_ | refine Jy s0 ?_ | refine Jy c ?_)
    refine ⟨⟨_, _, rfl, rfl, ?_⟩⟩
    exact AvLe.bool rfl
  · refine fn_sp (C := CX) [] [] tysX_ok mixed Tryz.func9 rfl (by kernel_rfl) Tryz.ntmps9 rfl rfl ?_
    repeat' ((conv => whnf); first | (refine Idx.mk ⟨0, by omega, by decide, ?_⟩) | refine Ja ?_ | refine Jb ?_ | refine Jc ?_ | refine Jd ?_ | refine Je ?_ | refine Jf ?_ | refine Jg rfl ?_ | refine Jh rfl ?_ | refine Ji ?_ | refine Jj ?_ | refine Jk rfl ?_ | refine Jl ?_ | refine Jm ?_ | refine Jn rfl ?_ | refine Jo ?_ | refine Jp ?_ | refine Jq rfl ?_ | refine Jr ?_ | refine Js ?_ | refine Jt rfl ?_ | refine Ju ?_ | refine Jv ?_ | refine Jw ?_ | refine Jx rfl ?_ | refine Jy s0 ?_ | refine Jy c ?_)
    refine ⟨⟨_, _, rfl, rfl, ?_⟩⟩
    exact AvLe.bool rfl
theorem sq2_err (L K D : Int) (i : Nat) (hi : i % 5 = 0) (c : Sp CX 25 [specA L K D] (.tup [.c (ix 1), .c (ix 0)])) (t : Sp CX 16 [specA L K D, int .i64 2] (.tup [.agg iZs, .c (ix 9)])) : Sp CX 9 [specA L K D, int .u8 i] (bool true) := by
  have s0 := tawake_sp
  have em : (i : Int).tmod 5 = ((i % 5 : Nat) : Int) := (Int.ofNat_tmod i 5).symm
  refine fn_sp (C := CX) [] [] tysX_ok mixed Tryz.func9 rfl (by kernel_rfl) Tryz.ntmps9 rfl rfl ?_
  repeat' ((conv => whnf); first | (refine Idx.mk ⟨0, by omega, by decide, ?_⟩) | refine Ja ?_ | refine Jb ?_ | refine Jc ?_ | refine Jd ?_ | refine Je ?_ | refine Jf ?_ | refine Jg rfl ?_ | refine Jh rfl ?_ | refine Ji ?_ | refine Jj ?_ | refine Jk rfl ?_ | refine Jl ?_ | refine Jm ?_ | refine Jn rfl ?_ | refine Jo ?_ | refine Jp ?_ | refine Jq rfl ?_ | refine Jr ?_ | refine Js ?_ | refine Jt rfl ?_ | refine Ju ?_ | refine Jv ?_ | refine Jw ?_ | refine Jx rfl ?_ | refine Jy s0 ?_ | refine Jy c ?_ | refine Jy t ?_)
  refine ⟨⟨_, _, rfl, rfl, ?_⟩⟩
  exact AvLe.bool rfl
set_option maxHeartbeats 4000000 in
theorem sq2_ok (N k : Nat) (D X : Int) (i : Nat) (hi : i % 5 = 0) (k1 : 2 ≤ k) (k2 : k ≤ 24) (d1 : -120 ≤ D) (d2 : D ≤ 120) (c : Sp CX 25 [specA N k D] (.tup [.c (ix 1), .c (ix 0)])) (lx : ln X.natAbs ≤ 100)
    (t : Sp CX 16 [specA N k D, int .i64 2] (.tup [zV X, .c (ix 0)])) (t2 : Sp CX 16 [specA N k D, int .i64 4] (.tup [zV (X * X - 2 ^ (k - 1) * jac D 2), .c (ix 0)])) : Sp CX 9 [specA N k D, int .u8 i] (bool true) := by
  have s0 := tawake_sp
  have em : (i : Int).tmod 5 = ((i % 5 : Nat) : Int) := (Int.ofNat_tmod i 5).symm
  have z1 := Z_sp 2 (by omega) (by omega)
  have pw := BPow_sp 2 (k - 1) (by decide) (by omega)
  have lp := ln_pow (a := 2) (by decide) (k - 1)
  have kr := kron28_sp D 2 (by omega) (by omega) (by omega) (by omega)
  have tr := jac_tri D 2 (by omega)
  generalize jac D 2 = J at *
  have tj : -1 ≤ J ∧ J ≤ 1 := by rcases tr with e | e | e <;> omega
  have z2 := Z_sp J (by omega) (by omega)
  have lj : ln J.natAbs ≤ 2 := ln64 (by omega) (by omega)
  generalize (2 : Int) ^ (k - 1) = Q at *
  have m1 := BMul_sp X X (by omega) (by omega)
  have m2 := BMul_sp Q J (by omega) (by omega)
  have l1 : ln (X * X).natAbs ≤ 200 := by rw [Int.natAbs_mul]; have := ln_mul X.natAbs X.natAbs; omega
  have l2 : ln (Q * J).natAbs ≤ 200 := by rw [Int.natAbs_mul]; have := ln_mul Q.natAbs J.natAbs; omega
  have sb := Sub_sp (X * X) (Q * J) (by omega) (by omega)
  have ls : ln (X * X - Q * J).natAbs ≤ 300 := by
    have h := ln_mono (Int.natAbs_sub_le (X * X) (Q * J))
    have := ln_add (X * X).natAbs (Q * J).natAbs
    omega
  have sm := SameInt_sp (X * X - Q * J) (by omega)
  clear tr
  refine fn_sp (C := CX) [] [] tysX_ok mixed Tryz.func9 rfl (by kernel_rfl) Tryz.ntmps9 rfl rfl ?_
  repeat' ((conv => whnf); first | (refine Idx.mk ⟨0, by omega, by decide, ?_⟩) | refine Ja ?_ | refine Jb ?_ | refine Jc ?_ | refine Jd ?_ | refine Je ?_ | refine Jf ?_ | refine Jg rfl ?_ | refine Jh rfl ?_ | refine Ji ?_ | refine Jj ?_ | refine Jk rfl ?_ | refine Jl ?_ | refine Jm ?_ | refine Jn rfl ?_ | refine Jo ?_ | refine Jp ?_ | refine Jq rfl ?_ | refine Jr ?_ | refine Js ?_ | refine Jt rfl ?_ | refine Ju ?_ | refine Jv ?_ | refine Jw ?_ | refine Jx rfl ?_ | refine Jy s0 ?_ | refine Jy c ?_ | refine Jy t ?_ | refine Jy t2 ?_ | refine Jy z1 ?_ | refine Sp.call (pw) (.cons (.refl _) (.cons (.int (by omega)) .nil)) rfl (AvLe.refl _) ?_ | refine Jy kr ?_ | refine Jy z2 ?_ | refine Jy m1 ?_ | refine Jy m2 ?_ | refine Jy sb ?_ | refine Jy sm ?_)
  refine ⟨⟨_, _, rfl, rfl, ?_⟩⟩
  exact AvLe.bool rfl
set_option maxHeartbeats 4000000 in
theorem sq3_walk (L K D d e : Int) (i : Nat) (hi : i % 5 = 1) (c : Sp CX 25 [specA L K D] (.tup [.c (ix d), .c (ix e)])) (h : e ≠ 0 ∨ d ≠ 1) : Sp CX 9 [specA L K D, int .u8 i] (bool true) := by
  have s0 := tawake_sp
  have em : (i : Int).tmod 5 = ((i % 5 : Nat) : Int) := (Int.ofNat_tmod i 5).symm
  by_cases h1 : e = 0
  · have h2 : ¬ d = 1 := by omega
    refine fn_sp (C := CX) [] [] tysX_ok mixed Tryz.func9 rfl (by kernel_rfl) Tryz.ntmps9 rfl rfl ?_
    repeat' ((conv => whnf); first | (refine Idx.mk ⟨1, by omega, by decide, ?_⟩) | refine Ja ?_ | refine Jb ?_ | refine Jc ?_ | refine Jd ?_ | refine Je ?_ | refine Jf ?_ | refine Jg rfl ?_ | refine Jh rfl ?_ | refine Ji ?_ | refine Jj ?_ | refine Jk rfl ?_ | refine Jl ?_ | refine Jm ?_ | refine Jn rfl ?_ | refine Jo ?_ | refine Jp ?_ | refine Jq rfl ?_ | refine Jr ?_ | refine Js ?_ | refine Jt rfl ?_ | refine Ju ?_ | refine Jv ?_ | refine Jw ?_ | refine Jx rfl ?_ | refine Jy s0 ?_ | refine Jy c ?_)
    refine ⟨⟨_, _, rfl, rfl, ?_⟩⟩
    exact AvLe.bool rfl
  · refine fn_sp (C := CX) [] [] tysX_ok mixed Tryz.func9 rfl (by kernel_rfl) Tryz.ntmps9 rfl rfl ?_
    repeat' ((conv => whnf); first | (refine Idx.mk ⟨1, by omega, by decide, ?_⟩) | refine Ja ?_ | refine Jb ?_ | refine Jc ?_ | refine Jd ?_ | refine Je ?_ | refine Jf ?_ | refine Jg rfl ?_ | refine Jh rfl ?_ | refine Ji ?_ | refine Jj ?_ | refine Jk rfl ?_ | refine Jl ?_ | refine Jm ?_ | refine Jn rfl ?_ | refine Jo ?_ | refine Jp ?_ | refine Jq rfl ?_ | refine Jr ?_ | refine Js ?_ | refine Jt rfl ?_ | refine Ju ?_ | refine Jv ?_ | refine Jw ?_ | refine Jx rfl ?_ | refine Jy s0 ?_ | refine Jy c ?_)
    refine ⟨⟨_, _, rfl, rfl, ?_⟩⟩
    exact AvLe.bool rfl
theorem sq3_err (L K D : Int) (i : Nat) (hi : i % 5 = 1) (c : Sp CX 25 [specA L K D] (.tup [.c (ix 1), .c (ix 0)])) (t : Sp CX 16 [specA L K D, int .i64 3] (.tup [.agg iZs, .c (ix 9)])) : Sp CX 9 [specA L K D, int .u8 i] (bool true) := by
  have s0 := tawake_sp
  have em : (i : Int).tmod 5 = ((i % 5 : Nat) : Int) := (Int.ofNat_tmod i 5).symm
  refine fn_sp (C := CX) [] [] tysX_ok mixed Tryz.func9 rfl (by kernel_rfl) Tryz.ntmps9 rfl rfl ?_
  repeat' ((conv => whnf); first | (refine Idx.mk ⟨1, by omega, by decide, ?_⟩) | refine Ja ?_ | refine Jb ?_ | refine Jc ?_ | refine Jd ?_ | refine Je ?_ | refine Jf ?_ | refine Jg rfl ?_ | refine Jh rfl ?_ | refine Ji ?_ | refine Jj ?_ | refine Jk rfl ?_ | refine Jl ?_ | refine Jm ?_ | refine Jn rfl ?_ | refine Jo ?_ | refine Jp ?_ | refine Jq rfl ?_ | refine Jr ?_ | refine Js ?_ | refine Jt rfl ?_ | refine Ju ?_ | refine Jv ?_ | refine Jw ?_ | refine Jx rfl ?_ | refine Jy s0 ?_ | refine Jy c ?_ | refine Jy t ?_)
  refine ⟨⟨_, _, rfl, rfl, ?_⟩⟩
  exact AvLe.bool rfl
set_option maxHeartbeats 4000000 in
theorem sq3_ok (N k : Nat) (D X : Int) (i : Nat) (hi : i % 5 = 1) (k1 : 2 ≤ k) (k2 : k ≤ 24) (d1 : -120 ≤ D) (d2 : D ≤ 120) (c : Sp CX 25 [specA N k D] (.tup [.c (ix 1), .c (ix 0)])) (lx : ln X.natAbs ≤ 100)
    (t : Sp CX 16 [specA N k D, int .i64 3] (.tup [zV X, .c (ix 0)])) (t2 : Sp CX 16 [specA N k D, int .i64 9] (.tup [zV (X * X - 3 ^ (k - 1) * jac D 3), .c (ix 0)])) : Sp CX 9 [specA N k D, int .u8 i] (bool true) := by
  have s0 := tawake_sp
  have em : (i : Int).tmod 5 = ((i % 5 : Nat) : Int) := (Int.ofNat_tmod i 5).symm
  have z1 := Z_sp 3 (by omega) (by omega)
  have pw := BPow_sp 3 (k - 1) (by decide) (by omega)
  have lp := ln_pow (a := 3) (by decide) (k - 1)
  have kr := kron28_sp D 3 (by omega) (by omega) (by omega) (by omega)
  have tr := jac_tri D 3 (by omega)
  generalize jac D 3 = J at *
  have tj : -1 ≤ J ∧ J ≤ 1 := by rcases tr with e | e | e <;> omega
  have z2 := Z_sp J (by omega) (by omega)
  have lj : ln J.natAbs ≤ 2 := ln64 (by omega) (by omega)
  generalize (3 : Int) ^ (k - 1) = Q at *
  have m1 := BMul_sp X X (by omega) (by omega)
  have m2 := BMul_sp Q J (by omega) (by omega)
  have l1 : ln (X * X).natAbs ≤ 200 := by rw [Int.natAbs_mul]; have := ln_mul X.natAbs X.natAbs; omega
  have l2 : ln (Q * J).natAbs ≤ 200 := by rw [Int.natAbs_mul]; have := ln_mul Q.natAbs J.natAbs; omega
  have sb := Sub_sp (X * X) (Q * J) (by omega) (by omega)
  have ls : ln (X * X - Q * J).natAbs ≤ 300 := by
    have h := ln_mono (Int.natAbs_sub_le (X * X) (Q * J))
    have := ln_add (X * X).natAbs (Q * J).natAbs
    omega
  have sm := SameInt_sp (X * X - Q * J) (by omega)
  clear tr
  refine fn_sp (C := CX) [] [] tysX_ok mixed Tryz.func9 rfl (by kernel_rfl) Tryz.ntmps9 rfl rfl ?_
  repeat' ((conv => whnf); first | (refine Idx.mk ⟨1, by omega, by decide, ?_⟩) | refine Ja ?_ | refine Jb ?_ | refine Jc ?_ | refine Jd ?_ | refine Je ?_ | refine Jf ?_ | refine Jg rfl ?_ | refine Jh rfl ?_ | refine Ji ?_ | refine Jj ?_ | refine Jk rfl ?_ | refine Jl ?_ | refine Jm ?_ | refine Jn rfl ?_ | refine Jo ?_ | refine Jp ?_ | refine Jq rfl ?_ | refine Jr ?_ | refine Js ?_ | refine Jt rfl ?_ | refine Ju ?_ | refine Jv ?_ | refine Jw ?_ | refine Jx rfl ?_ | refine Jy s0 ?_ | refine Jy c ?_ | refine Jy t ?_ | refine Jy t2 ?_ | refine Jy z1 ?_ | refine Sp.call (pw) (.cons (.refl _) (.cons (.int (by omega)) .nil)) rfl (AvLe.refl _) ?_ | refine Jy kr ?_ | refine Jy z2 ?_ | refine Jy m1 ?_ | refine Jy m2 ?_ | refine Jy sb ?_ | refine Jy sm ?_)
  refine ⟨⟨_, _, rfl, rfl, ?_⟩⟩
  exact AvLe.bool rfl
set_option maxHeartbeats 4000000 in
theorem sq5_walk (L K D d e : Int) (i : Nat) (hi : i % 5 = 2) (c : Sp CX 25 [specA L K D] (.tup [.c (ix d), .c (ix e)])) (h : e ≠ 0 ∨ d ≠ 1) : Sp CX 9 [specA L K D, int .u8 i] (bool true) := by
  have s0 := tawake_sp
  have em : (i : Int).tmod 5 = ((i % 5 : Nat) : Int) := (Int.ofNat_tmod i 5).symm
  by_cases h1 : e = 0
  · have h2 : ¬ d = 1 := by omega
    refine fn_sp (C := CX) [] [] tysX_ok mixed Tryz.func9 rfl (by kernel_rfl) Tryz.ntmps9 rfl rfl ?_
    repeat' ((conv => whnf); first | (refine Idx.mk ⟨2, by omega, by decide, ?_⟩) | refine Ja ?_ | refine Jb ?_ | refine Jc ?_ | refine Jd ?_ | refine Je ?_ | refine Jf ?_ | refine Jg rfl ?_ | refine Jh rfl ?_ | refine Ji ?_ | refine Jj ?_ | refine Jk rfl ?_ | refine Jl ?_ | refine Jm ?_ | refine Jn rfl ?_ | refine Jo ?_ | refine Jp ?_ | refine Jq rfl ?_ | refine Jr ?_ | refine Js ?_ | refine Jt rfl ?_ | refine Ju ?_ | refine Jv ?_ | refine Jw ?_ | refine Jx rfl ?_ | refine Jy s0 ?_ | refine Jy c ?_)
    refine ⟨⟨_, _, rfl, rfl, ?_⟩⟩
    exact AvLe.bool rfl
  · refine fn_sp (C := CX) [] [] tysX_ok mixed Tryz.func9 rfl (by kernel_rfl) Tryz.ntmps9 rfl rfl ?_
    repeat' ((conv => whnf); first | (refine Idx.mk ⟨2, by omega, by decide, ?_⟩) | refine Ja ?_ | refine Jb ?_ | refine Jc ?_ | refine Jd ?_ | refine Je ?_ | refine Jf ?_ | refine Jg rfl ?_ | refine Jh rfl ?_ | refine Ji ?_ | refine Jj ?_ | refine Jk rfl ?_ | refine Jl ?_ | refine Jm ?_ | refine Jn rfl ?_ | refine Jo ?_ | refine Jp ?_ | refine Jq rfl ?_ | refine Jr ?_ | refine Js ?_ | refine Jt rfl ?_ | refine Ju ?_ | refine Jv ?_ | refine Jw ?_ | refine Jx rfl ?_ | refine Jy s0 ?_ | refine Jy c ?_)
    refine ⟨⟨_, _, rfl, rfl, ?_⟩⟩
    exact AvLe.bool rfl
theorem sq5_err (L K D : Int) (i : Nat) (hi : i % 5 = 2) (c : Sp CX 25 [specA L K D] (.tup [.c (ix 1), .c (ix 0)])) (t : Sp CX 16 [specA L K D, int .i64 5] (.tup [.agg iZs, .c (ix 9)])) : Sp CX 9 [specA L K D, int .u8 i] (bool true) := by
  have s0 := tawake_sp
  have em : (i : Int).tmod 5 = ((i % 5 : Nat) : Int) := (Int.ofNat_tmod i 5).symm
  refine fn_sp (C := CX) [] [] tysX_ok mixed Tryz.func9 rfl (by kernel_rfl) Tryz.ntmps9 rfl rfl ?_
  repeat' ((conv => whnf); first | (refine Idx.mk ⟨2, by omega, by decide, ?_⟩) | refine Ja ?_ | refine Jb ?_ | refine Jc ?_ | refine Jd ?_ | refine Je ?_ | refine Jf ?_ | refine Jg rfl ?_ | refine Jh rfl ?_ | refine Ji ?_ | refine Jj ?_ | refine Jk rfl ?_ | refine Jl ?_ | refine Jm ?_ | refine Jn rfl ?_ | refine Jo ?_ | refine Jp ?_ | refine Jq rfl ?_ | refine Jr ?_ | refine Js ?_ | refine Jt rfl ?_ | refine Ju ?_ | refine Jv ?_ | refine Jw ?_ | refine Jx rfl ?_ | refine Jy s0 ?_ | refine Jy c ?_ | refine Jy t ?_)
  refine ⟨⟨_, _, rfl, rfl, ?_⟩⟩
  exact AvLe.bool rfl
set_option maxHeartbeats 4000000 in
theorem sq5_ok (N k : Nat) (D X : Int) (i : Nat) (hi : i % 5 = 2) (k1 : 2 ≤ k) (k2 : k ≤ 24) (d1 : -120 ≤ D) (d2 : D ≤ 120) (c : Sp CX 25 [specA N k D] (.tup [.c (ix 1), .c (ix 0)])) (lx : ln X.natAbs ≤ 100)
    (t : Sp CX 16 [specA N k D, int .i64 5] (.tup [zV X, .c (ix 0)])) (t2 : Sp CX 16 [specA N k D, int .i64 25] (.tup [zV (X * X - 5 ^ (k - 1) * jac D 5), .c (ix 0)])) : Sp CX 9 [specA N k D, int .u8 i] (bool true) := by
  have s0 := tawake_sp
  have em : (i : Int).tmod 5 = ((i % 5 : Nat) : Int) := (Int.ofNat_tmod i 5).symm
  have z1 := Z_sp 5 (by omega) (by omega)
  have pw := BPow_sp 5 (k - 1) (by decide) (by omega)
  have lp := ln_pow (a := 5) (by decide) (k - 1)
  have kr := kron28_sp D 5 (by omega) (by omega) (by omega) (by omega)
  have tr := jac_tri D 5 (by omega)
  generalize jac D 5 = J at *
  have tj : -1 ≤ J ∧ J ≤ 1 := by rcases tr with e | e | e <;> omega
  have z2 := Z_sp J (by omega) (by omega)
  have lj : ln J.natAbs ≤ 2 := ln64 (by omega) (by omega)
  generalize (5 : Int) ^ (k - 1) = Q at *
  have m1 := BMul_sp X X (by omega) (by omega)
  have m2 := BMul_sp Q J (by omega) (by omega)
  have l1 : ln (X * X).natAbs ≤ 200 := by rw [Int.natAbs_mul]; have := ln_mul X.natAbs X.natAbs; omega
  have l2 : ln (Q * J).natAbs ≤ 200 := by rw [Int.natAbs_mul]; have := ln_mul Q.natAbs J.natAbs; omega
  have sb := Sub_sp (X * X) (Q * J) (by omega) (by omega)
  have ls : ln (X * X - Q * J).natAbs ≤ 300 := by
    have h := ln_mono (Int.natAbs_sub_le (X * X) (Q * J))
    have := ln_add (X * X).natAbs (Q * J).natAbs
    omega
  have sm := SameInt_sp (X * X - Q * J) (by omega)
  clear tr
  refine fn_sp (C := CX) [] [] tysX_ok mixed Tryz.func9 rfl (by kernel_rfl) Tryz.ntmps9 rfl rfl ?_
  repeat' ((conv => whnf); first | (refine Idx.mk ⟨2, by omega, by decide, ?_⟩) | refine Ja ?_ | refine Jb ?_ | refine Jc ?_ | refine Jd ?_ | refine Je ?_ | refine Jf ?_ | refine Jg rfl ?_ | refine Jh rfl ?_ | refine Ji ?_ | refine Jj ?_ | refine Jk rfl ?_ | refine Jl ?_ | refine Jm ?_ | refine Jn rfl ?_ | refine Jo ?_ | refine Jp ?_ | refine Jq rfl ?_ | refine Jr ?_ | refine Js ?_ | refine Jt rfl ?_ | refine Ju ?_ | refine Jv ?_ | refine Jw ?_ | refine Jx rfl ?_ | refine Jy s0 ?_ | refine Jy c ?_ | refine Jy t ?_ | refine Jy t2 ?_ | refine Jy z1 ?_ | refine Sp.call (pw) (.cons (.refl _) (.cons (.int (by omega)) .nil)) rfl (AvLe.refl _) ?_ | refine Jy kr ?_ | refine Jy z2 ?_ | refine Jy m1 ?_ | refine Jy m2 ?_ | refine Jy sb ?_ | refine Jy sm ?_)
  refine ⟨⟨_, _, rfl, rfl, ?_⟩⟩
  exact AvLe.bool rfl
set_option maxHeartbeats 4000000 in
theorem sq7_walk (L K D d e : Int) (i : Nat) (hi : i % 5 = 3) (c : Sp CX 25 [specA L K D] (.tup [.c (ix d), .c (ix e)])) (h : e ≠ 0 ∨ d ≠ 1) : Sp CX 9 [specA L K D, int .u8 i] (bool true) := by
  have s0 := tawake_sp
  have em : (i : Int).tmod 5 = ((i % 5 : Nat) : Int) := (Int.ofNat_tmod i 5).symm
  by_cases h1 : e = 0
  · have h2 : ¬ d = 1 := by omega
    refine fn_sp (C := CX) [] [] tysX_ok mixed Tryz.func9 rfl (by kernel_rfl) Tryz.ntmps9 rfl rfl ?_
    repeat' ((conv => whnf); first | (refine Idx.mk ⟨3, by omega, by decide, ?_⟩) | refine Ja ?_ | refine Jb ?_ | refine Jc ?_ | refine Jd ?_ | refine Je ?_ | refine Jf ?_ | refine Jg rfl ?_ | refine Jh rfl ?_ | refine Ji ?_ | refine Jj ?_ | refine Jk rfl ?_ | refine Jl ?_ | refine Jm ?_ | refine Jn rfl ?_ | refine Jo ?_ | refine Jp ?_ | refine Jq rfl ?_ | refine Jr ?_ | refine Js ?_ | refine Jt rfl ?_ | refine Ju ?_ | refine Jv ?_ | refine Jw ?_ | refine Jx rfl ?_ | refine Jy s0 ?_ | refine Jy c ?_)
    refine ⟨⟨_, _, rfl, rfl, ?_⟩⟩
    exact AvLe.bool rfl
  · refine fn_sp (C := CX) [] [] tysX_ok mixed Tryz.func9 rfl (by kernel_rfl) Tryz.ntmps9 rfl rfl ?_
    repeat' ((conv => whnf); first | (refine Idx.mk ⟨3, by omega, by decide, ?_⟩) | refine Ja ?_ | refine Jb ?_ | refine Jc ?_ | refine Jd ?_ | refine Je ?_ | refine Jf ?_ | refine Jg rfl ?_ | refine Jh rfl ?_ | refine Ji ?_ | refine Jj ?_ | refine Jk rfl ?_ | refine Jl ?_ | refine Jm ?_ | refine Jn rfl ?_ | refine Jo ?_ | refine Jp ?_ | refine Jq rfl ?_ | refine Jr ?_ | refine Js ?_ | refine Jt rfl ?_ | refine Ju ?_ | refine Jv ?_ | refine Jw ?_ | refine Jx rfl ?_ | refine Jy s0 ?_ | refine Jy c ?_)
    refine ⟨⟨_, _, rfl, rfl, ?_⟩⟩
    exact AvLe.bool rfl
theorem sq7_err (L K D : Int) (i : Nat) (hi : i % 5 = 3) (c : Sp CX 25 [specA L K D] (.tup [.c (ix 1), .c (ix 0)])) (t : Sp CX 16 [specA L K D, int .i64 7] (.tup [.agg iZs, .c (ix 9)])) : Sp CX 9 [specA L K D, int .u8 i] (bool true) := by
  have s0 := tawake_sp
  have em : (i : Int).tmod 5 = ((i % 5 : Nat) : Int) := (Int.ofNat_tmod i 5).symm
  refine fn_sp (C := CX) [] [] tysX_ok mixed Tryz.func9 rfl (by kernel_rfl) Tryz.ntmps9 rfl rfl ?_
  repeat' ((conv => whnf); first | (refine Idx.mk ⟨3, by omega, by decide, ?_⟩) | refine Ja ?_ | refine Jb ?_ | refine Jc ?_ | refine Jd ?_ | refine Je ?_ | refine Jf ?_ | refine Jg rfl ?_ | refine Jh rfl ?_ | refine Ji ?_ | refine Jj ?_ | refine Jk rfl ?_ | refine Jl ?_ | refine Jm ?_ | refine Jn rfl ?_ | refine Jo ?_ | refine Jp ?_ | refine Jq rfl ?_ | refine Jr ?_ | refine Js ?_ | refine Jt rfl ?_ | refine Ju ?_ | refine Jv ?_ | refine Jw ?_ | refine Jx rfl ?_ | refine Jy s0 ?_ | refine Jy c ?_ | refine Jy t ?_)
  refine ⟨⟨_, _, rfl, rfl, ?_⟩⟩
  exact AvLe.bool rfl
set_option maxHeartbeats 4000000 in
theorem sq7_ok (N k : Nat) (D X : Int) (i : Nat) (hi : i % 5 = 3) (k1 : 2 ≤ k) (k2 : k ≤ 24) (d1 : -120 ≤ D) (d2 : D ≤ 120) (c : Sp CX 25 [specA N k D] (.tup [.c (ix 1), .c (ix 0)])) (lx : ln X.natAbs ≤ 100)
    (t : Sp CX 16 [specA N k D, int .i64 7] (.tup [zV X, .c (ix 0)])) (t2 : Sp CX 16 [specA N k D, int .i64 49] (.tup [zV (X * X - 7 ^ (k - 1) * jac D 7), .c (ix 0)])) : Sp CX 9 [specA N k D, int .u8 i] (bool true) := by
  have s0 := tawake_sp
  have em : (i : Int).tmod 5 = ((i % 5 : Nat) : Int) := (Int.ofNat_tmod i 5).symm
  have z1 := Z_sp 7 (by omega) (by omega)
  have pw := BPow_sp 7 (k - 1) (by decide) (by omega)
  have lp := ln_pow (a := 7) (by decide) (k - 1)
  have kr := kron28_sp D 7 (by omega) (by omega) (by omega) (by omega)
  have tr := jac_tri D 7 (by omega)
  generalize jac D 7 = J at *
  have tj : -1 ≤ J ∧ J ≤ 1 := by rcases tr with e | e | e <;> omega
  have z2 := Z_sp J (by omega) (by omega)
  have lj : ln J.natAbs ≤ 2 := ln64 (by omega) (by omega)
  generalize (7 : Int) ^ (k - 1) = Q at *
  have m1 := BMul_sp X X (by omega) (by omega)
  have m2 := BMul_sp Q J (by omega) (by omega)
  have l1 : ln (X * X).natAbs ≤ 200 := by rw [Int.natAbs_mul]; have := ln_mul X.natAbs X.natAbs; omega
  have l2 : ln (Q * J).natAbs ≤ 200 := by rw [Int.natAbs_mul]; have := ln_mul Q.natAbs J.natAbs; omega
  have sb := Sub_sp (X * X) (Q * J) (by omega) (by omega)
  have ls : ln (X * X - Q * J).natAbs ≤ 300 := by
    have h := ln_mono (Int.natAbs_sub_le (X * X) (Q * J))
    have := ln_add (X * X).natAbs (Q * J).natAbs
    omega
  have sm := SameInt_sp (X * X - Q * J) (by omega)
  clear tr
  refine fn_sp (C := CX) [] [] tysX_ok mixed Tryz.func9 rfl (by kernel_rfl) Tryz.ntmps9 rfl rfl ?_
  repeat' ((conv => whnf); first | (refine Idx.mk ⟨3, by omega, by decide, ?_⟩) | refine Ja ?_ | refine Jb ?_ | refine Jc ?_ | refine Jd ?_ | refine Je ?_ | refine Jf ?_ | refine Jg rfl ?_ | refine Jh rfl ?_ | refine Ji ?_ | refine Jj ?_ | refine Jk rfl ?_ | refine Jl ?_ | refine Jm ?_ | refine Jn rfl ?_ | refine Jo ?_ | refine Jp ?_ | refine Jq rfl ?_ | refine Jr ?_ | refine Js ?_ | refine Jt rfl ?_ | refine Ju ?_ | refine Jv ?_ | refine Jw ?_ | refine Jx rfl ?_ | refine Jy s0 ?_ | refine Jy c ?_ | refine Jy t ?_ | refine Jy t2 ?_ | refine Jy z1 ?_ | refine Sp.call (pw) (.cons (.refl _) (.cons (.int (by omega)) .nil)) rfl (AvLe.refl _) ?_ | refine Jy kr ?_ | refine Jy z2 ?_ | refine Jy m1 ?_ | refine Jy m2 ?_ | refine Jy sb ?_ | refine Jy sm ?_)
  refine ⟨⟨_, _, rfl, rfl, ?_⟩⟩
  exact AvLe.bool rfl
set_option maxHeartbeats 4000000 in
theorem sq11_walk (L K D d e : Int) (i : Nat) (hi : i % 5 = 4) (c : Sp CX 25 [specA L K D] (.tup [.c (ix d), .c (ix e)])) (h : e ≠ 0 ∨ d ≠ 1) : Sp CX 9 [specA L K D, int .u8 i] (bool true) := by
  have s0 := tawake_sp
  have em : (i : Int).tmod 5 = ((i % 5 : Nat) : Int) := (Int.ofNat_tmod i 5).symm
  by_cases h1 : e = 0
  · have h2 : ¬ d = 1 := by omega
    refine fn_sp (C := CX) [] [] tysX_ok mixed Tryz.func9 rfl (by kernel_rfl) Tryz.ntmps9 rfl rfl ?_
    repeat' ((conv => whnf); first | (refine Idx.mk ⟨4, by omega, by decide, ?_⟩) | refine Ja ?_ | refine Jb ?_ | refine Jc ?_ | refine Jd ?_ | refine Je ?_ | refine Jf ?_ | refine Jg rfl ?_ | refine Jh rfl ?_ | refine Ji ?_ | refine Jj ?_ | refine Jk rfl ?_ | refine Jl ?_ | refine Jm ?_ | refine Jn rfl ?_ | refine Jo ?_ | refine Jp ?_ | refine Jq rfl ?_ | refine Jr ?_ | refine Js ?_ | refine Jt rfl ?_ | refine Ju ?_ | refine Jv ?_ | refine Jw ?_ | refine Jx rfl ?_ | refine Jy s0 ?_ | refine Jy c ?_)
    refine ⟨⟨_, _, rfl, rfl, ?_⟩⟩
    exact AvLe.bool rfl
  · refine fn_sp (C := CX) [] [] tysX_ok mixed Tryz.func9 rfl (by kernel_rfl) Tryz.ntmps9 rfl rfl ?_
    repeat' ((conv => whnf); first | (refine Idx.mk ⟨4, by omega, by decide, ?_⟩) | refine Ja ?_ | refine Jb ?_ | refine Jc ?_ | refine Jd ?_ | refine Je ?_ | refine Jf ?_ | refine Jg rfl ?_ | refine Jh rfl ?_ | refine Ji ?_ | refine Jj ?_ | refine Jk rfl ?_ | refine Jl ?_ | refine Jm ?_ | refine Jn rfl ?_ | refine Jo ?_ | refine Jp ?_ | refine Jq rfl ?_ | refine Jr ?_ | refine Js ?_ | refine Jt rfl ?_ | refine Ju ?_ | refine Jv ?_ | refine Jw ?_ | refine Jx rfl ?_ | refine Jy s0 ?_ | refine Jy c ?_)
    refine ⟨⟨_, _, rfl, rfl, ?_⟩⟩
    exact AvLe.bool rfl
theorem sq11_err (L K D : Int) (i : Nat) (hi : i % 5 = 4) (c : Sp CX 25 [specA L K D] (.tup [.c (ix 1), .c (ix 0)])) (t : Sp CX 16 [specA L K D, int .i64 11] (.tup [.agg iZs, .c (ix 9)])) : Sp CX 9 [specA L K D, int .u8 i] (bool true) := by
  have s0 := tawake_sp
  have em : (i : Int).tmod 5 = ((i % 5 : Nat) : Int) := (Int.ofNat_tmod i 5).symm
  refine fn_sp (C := CX) [] [] tysX_ok mixed Tryz.func9 rfl (by kernel_rfl) Tryz.ntmps9 rfl rfl ?_
  repeat' ((conv => whnf); first | (refine Idx.mk ⟨4, by omega, by decide, ?_⟩) | refine Ja ?_ | refine Jb ?_ | refine Jc ?_ | refine Jd ?_ | refine Je ?_ | refine Jf ?_ | refine Jg rfl ?_ | refine Jh rfl ?_ | refine Ji ?_ | refine Jj ?_ | refine Jk rfl ?_ | refine Jl ?_ | refine Jm ?_ | refine Jn rfl ?_ | refine Jo ?_ | refine Jp ?_ | refine Jq rfl ?_ | refine Jr ?_ | refine Js ?_ | refine Jt rfl ?_ | refine Ju ?_ | refine Jv ?_ | refine Jw ?_ | refine Jx rfl ?_ | refine Jy s0 ?_ | refine Jy c ?_ | refine Jy t ?_)
  refine ⟨⟨_, _, rfl, rfl, ?_⟩⟩
  exact AvLe.bool rfl
set_option maxHeartbeats 4000000 in
theorem sq11_ok (N k : Nat) (D X : Int) (i : Nat) (hi : i % 5 = 4) (k1 : 2 ≤ k) (k2 : k ≤ 24) (d1 : -120 ≤ D) (d2 : D ≤ 120) (c : Sp CX 25 [specA N k D] (.tup [.c (ix 1), .c (ix 0)])) (lx : ln X.natAbs ≤ 100)
    (t : Sp CX 16 [specA N k D, int .i64 11] (.tup [zV X, .c (ix 0)])) (t2 : Sp CX 16 [specA N k D, int .i64 121] (.tup [zV (X * X - 11 ^ (k - 1) * jac D 11), .c (ix 0)])) : Sp CX 9 [specA N k D, int .u8 i] (bool true) := by
  have s0 := tawake_sp
  have em : (i : Int).tmod 5 = ((i % 5 : Nat) : Int) := (Int.ofNat_tmod i 5).symm
  have z1 := Z_sp 11 (by omega) (by omega)
  have pw := BPow_sp 11 (k - 1) (by decide) (by omega)
  have lp := ln_pow (a := 11) (by decide) (k - 1)
  have kr := kron28_sp D 11 (by omega) (by omega) (by omega) (by omega)
  have tr := jac_tri D 11 (by omega)
  generalize jac D 11 = J at *
  have tj : -1 ≤ J ∧ J ≤ 1 := by rcases tr with e | e | e <;> omega
  have z2 := Z_sp J (by omega) (by omega)
  have lj : ln J.natAbs ≤ 2 := ln64 (by omega) (by omega)
  generalize (11 : Int) ^ (k - 1) = Q at *
  have m1 := BMul_sp X X (by omega) (by omega)
  have m2 := BMul_sp Q J (by omega) (by omega)
  have l1 : ln (X * X).natAbs ≤ 200 := by rw [Int.natAbs_mul]; have := ln_mul X.natAbs X.natAbs; omega
  have l2 : ln (Q * J).natAbs ≤ 200 := by rw [Int.natAbs_mul]; have := ln_mul Q.natAbs J.natAbs; omega
  have sb := Sub_sp (X * X) (Q * J) (by omega) (by omega)
  have ls : ln (X * X - Q * J).natAbs ≤ 300 := by
    have h := ln_mono (Int.natAbs_sub_le (X * X) (Q * J))
    have := ln_add (X * X).natAbs (Q * J).natAbs
    omega
  have sm := SameInt_sp (X * X - Q * J) (by omega)
  clear tr
  refine fn_sp (C := CX) [] [] tysX_ok mixed Tryz.func9 rfl (by kernel_rfl) Tryz.ntmps9 rfl rfl ?_
  repeat' ((conv => whnf); first | (refine Idx.mk ⟨4, by omega, by decide, ?_⟩) | refine Ja ?_ | refine Jb ?_ | refine Jc ?_ | refine Jd ?_ | refine Je ?_ | refine Jf ?_ | refine Jg rfl ?_ | refine Jh rfl ?_ | refine Ji ?_ | refine Jj ?_ | refine Jk rfl ?_ | refine Jl ?_ | refine Jm ?_ | refine Jn rfl ?_ | refine Jo ?_ | refine Jp ?_ | refine Jq rfl ?_ | refine Jr ?_ | refine Js ?_ | refine Jt rfl ?_ | refine Ju ?_ | refine Jv ?_ | refine Jw ?_ | refine Jx rfl ?_ | refine Jy s0 ?_ | refine Jy c ?_ | refine Jy t ?_ | refine Jy t2 ?_ | refine Jy z1 ?_ | refine Sp.call (pw) (.cons (.refl _) (.cons (.int (by omega)) .nil)) rfl (AvLe.refl _) ?_ | refine Jy kr ?_ | refine Jy z2 ?_ | refine Jy m1 ?_ | refine Jy m2 ?_ | refine Jy sb ?_ | refine Jy sm ?_)
  refine ⟨⟨_, _, rfl, rfl, ?_⟩⟩
  exact AvLe.bool rfl
theorem law_tsq (L K D i : Int) (i0 : 0 ≤ i) (i1 : i ≤ 255) : Sp CX 9 [specA L K D, int .u8 i] (bool true) := by
  obtain ⟨i, rfl⟩ := Int.eq_ofNat_of_zero_le i0
  by_cases h : dchk L K D = 0
  · obtain ⟨N, k, rfl, rfl, ok⟩ := dchk_out h
    have c := cusp_ok N k D ok
    by_cases hc : cuspV N k D = 1
    · have c1 := c
      rw [hc] at c1
      have key : ∀ p n : Nat, (p, n) ∈ sqL → Nat.gcd p N = 1 → Nat.gcd n N = 1 → 1 ≤ p → p ≤ 11 → 1 ≤ n → n ≤ 128 → ∃ X : Int, ln X.natAbs ≤ 100 ∧ Sp CX 16 [specA N k D, int .i64 p] (.tup [zV X, .c (ix 0)]) ∧ Sp CX 16 [specA N k D, int .i64 n] (.tup [zV (X * X - (p : Int) ^ (k - 1) * jac D p), .c (ix 0)]) := fun p n hm hp hn p1 p2 n1 n2 => by
        obtain ⟨f1, f2, f3⟩ := sq_fact ok hc hm hp hn p1 p2 n1 n2
        have t2 := Trace_ok N k n D ok n1 n2 hn f2
        refine ⟨_, (trQ_ok ok p1 (by omega) f1).x, Trace_ok N k p D ok p1 (by omega) hp f1, ?_⟩
        obtain ⟨X, hX⟩ := f1
        have e : T12 N k D n / 12 = T12 N k D p / 12 * (T12 N k D p / 12) - (p : Int) ^ (k - 1) * jac D p := by
          rw [hX] at f3 ⊢
          rw [Int.mul_ediv_cancel_left _ (by omega)]
          have e1 : 12 * X * (12 * X) = 12 * (12 * (X * X)) := by grind
          generalize (p : Int) ^ (k - 1) * jac D p = Q at *
          omega
        rw [← e]
        exact t2
      have bad : ∀ p : Nat, 1 ≤ p → p ≤ 128 → ¬ Nat.gcd p N = 1 → Sp CX 16 [specA N k D, int .i64 p] (.tup [.agg iZs, .c (ix 9)]) := fun p p1 p2 hg => by
        have e : trE N k D p = 9 := by
          unfold trE
          rw [ok.chk, if_neg (fun x => x rfl), if_neg (by omega), if_neg (show ¬ Int.gcd (p : Int) (N : Int) = 1 from hg)]
        have := Trace_bad N k D p (by rw [e]; decide)
        rw [e] at this
        exact this
      rcases (show i % 5 = 0 ∨ i % 5 = 1 ∨ i % 5 = 2 ∨ i % 5 = 3 ∨ i % 5 = 4 by omega) with j | j | j | j | j
      · by_cases hg : Nat.gcd 2 N = 1
        · obtain ⟨X, lx, t, t2⟩ := key 2 4 (by decide) hg (Nat.Coprime.mul_left (m := 2) (n := 2) hg hg) (by decide) (by decide) (by decide) (by decide)
          exact sq2_ok N k D X i j ok.k0 ok.k1 ok.d0 ok.d1 c1 lx t t2
        · exact sq2_err N k D i j c1 (bad 2 (by decide) (by decide) hg)
      · by_cases hg : Nat.gcd 3 N = 1
        · obtain ⟨X, lx, t, t2⟩ := key 3 9 (by decide) hg (Nat.Coprime.mul_left (m := 3) (n := 3) hg hg) (by decide) (by decide) (by decide) (by decide)
          exact sq3_ok N k D X i j ok.k0 ok.k1 ok.d0 ok.d1 c1 lx t t2
        · exact sq3_err N k D i j c1 (bad 3 (by decide) (by decide) hg)
      · by_cases hg : Nat.gcd 5 N = 1
        · obtain ⟨X, lx, t, t2⟩ := key 5 25 (by decide) hg (Nat.Coprime.mul_left (m := 5) (n := 5) hg hg) (by decide) (by decide) (by decide) (by decide)
          exact sq5_ok N k D X i j ok.k0 ok.k1 ok.d0 ok.d1 c1 lx t t2
        · exact sq5_err N k D i j c1 (bad 5 (by decide) (by decide) hg)
      · by_cases hg : Nat.gcd 7 N = 1
        · obtain ⟨X, lx, t, t2⟩ := key 7 49 (by decide) hg (Nat.Coprime.mul_left (m := 7) (n := 7) hg hg) (by decide) (by decide) (by decide) (by decide)
          exact sq7_ok N k D X i j ok.k0 ok.k1 ok.d0 ok.d1 c1 lx t t2
        · exact sq7_err N k D i j c1 (bad 7 (by decide) (by decide) hg)
      · by_cases hg : Nat.gcd 11 N = 1
        · obtain ⟨X, lx, t, t2⟩ := key 11 121 (by decide) hg (Nat.Coprime.mul_left (m := 11) (n := 11) hg hg) (by decide) (by decide) (by decide) (by decide)
          exact sq11_ok N k D X i j ok.k0 ok.k1 ok.d0 ok.d1 c1 lx t t2
        · exact sq11_err N k D i j c1 (bad 11 (by decide) (by decide) hg)
    · rcases (show i % 5 = 0 ∨ i % 5 = 1 ∨ i % 5 = 2 ∨ i % 5 = 3 ∨ i % 5 = 4 by omega) with j | j | j | j | j
      · exact sq2_walk N k D _ 0 i j c (.inr hc)
      · exact sq3_walk N k D _ 0 i j c (.inr hc)
      · exact sq5_walk N k D _ 0 i j c (.inr hc)
      · exact sq7_walk N k D _ 0 i j c (.inr hc)
      · exact sq11_walk N k D _ 0 i j c (.inr hc)
  · rcases (show i % 5 = 0 ∨ i % 5 = 1 ∨ i % 5 = 2 ∨ i % 5 = 3 ∨ i % 5 = 4 by omega) with j | j | j | j | j
    · exact sq2_walk L K D _ _ i j (cusp_bad L K D h) (.inl h)
    · exact sq3_walk L K D _ _ i j (cusp_bad L K D h) (.inl h)
    · exact sq5_walk L K D _ _ i j (cusp_bad L K D h) (.inl h)
    · exact sq7_walk L K D _ _ i j (cusp_bad L K D h) (.inl h)
    · exact sq11_walk L K D _ _ i j (cusp_bad L K D h) (.inl h)
end Go.Proofs.YtjijdabbhfefjaaGreatDoor
