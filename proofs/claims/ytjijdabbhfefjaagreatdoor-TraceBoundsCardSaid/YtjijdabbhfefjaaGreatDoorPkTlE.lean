/- Own texts joined: TlE, TlF. -/
import Derived.Test.YtjijdabbhfefjaaGreatDoorTlA
/- The statements about traces: a helper, bounds. -/
namespace Go.Proofs.YtjijdabbhfefjaaGreatDoor
open Go Go.RowKit Go.VG HP
theorem BCmp_sp (a b : Int) (a0 : 0 ≤ a) (b0 : 0 ≤ b) (ha : ln a.natAbs ≤ 1000000) (hb : ln b.natAbs ≤ 1000000) : Sp CX 31 [zA a, zA b] (int .i64 (cmpZ a.natAbs b.natAbs)) := by
  have s1 := Sign_sp a ha
  have s2 := Sign_sp b hb
  rw [if_neg (by omega)] at s1 s2
  have c := compare_sp a.natAbs b.natAbs ha hb
  have t1 := trimmed_sp a.natAbs (ln a.natAbs) (Nat.le_refl _) (by omega)
  have t2 := trimmed_sp b.natAbs (ln b.natAbs) (Nat.le_refl _) (by omega)
  have g1 := sign_sp 1
  have g2 := sign_sp (-1)
  have cv : -1 ≤ cmpZ a.natAbs b.natAbs ∧ cmpZ a.natAbs b.natAbs ≤ 1 := by unfold cmpZ; split <;> (try split) <;> omega
  by_cases ha0 : 0 < a
  · rw [if_pos ha0] at s1
    by_cases hb0 : 0 < b
    · rw [if_pos hb0] at s2
      generalize cmpZ a.natAbs b.natAbs = z at *
      refine fn_sp (C := CX) [] [] tysX_ok mixed Tryz.func31 rfl (by kernel_rfl) Tryz.ntmps31 rfl rfl ?_
      repeat' ((conv => whnf); first | refine Ja ?_ | refine Jb ?_ | refine Jc ?_ | refine Jd ?_ | refine Je ?_ | refine Jf ?_ | refine Jg rfl ?_ | refine Jh rfl ?_ | refine Ji ?_ | refine Jj ?_ | refine Jk rfl ?_ | refine Jl ?_ | refine Jm ?_ | refine Jn rfl ?_ | refine Jo ?_ | refine Jp ?_ | refine Jq rfl ?_ | refine Jr ?_ | refine Js ?_ | refine Jt rfl ?_ | refine Ju ?_ | refine Jv ?_ | refine Jw ?_ | refine Jx rfl ?_ | refine Jy s1 ?_ | refine Jy s2 ?_ | refine Jy t1 ?_ | refine Jy t2 ?_ | refine Jy c ?_)
      refine ⟨⟨_, _, rfl, rfl, ?_⟩⟩
      exact .int (by omega)
    · rw [if_neg hb0] at s2
      have e : cmpZ a.natAbs b.natAbs = 1 := by unfold cmpZ; rw [if_neg (by omega), if_neg (by omega)]
      rw [e]
      refine fn_sp (C := CX) [] [] tysX_ok mixed Tryz.func31 rfl (by kernel_rfl) Tryz.ntmps31 rfl rfl ?_
      repeat' ((conv => whnf); first | refine Ja ?_ | refine Jb ?_ | refine Jc ?_ | refine Jd ?_ | refine Je ?_ | refine Jf ?_ | refine Jg rfl ?_ | refine Jh rfl ?_ | refine Ji ?_ | refine Jj ?_ | refine Jk rfl ?_ | refine Jl ?_ | refine Jm ?_ | refine Jn rfl ?_ | refine Jo ?_ | refine Jp ?_ | refine Jq rfl ?_ | refine Jr ?_ | refine Js ?_ | refine Jt rfl ?_ | refine Ju ?_ | refine Jv ?_ | refine Jw ?_ | refine Jx rfl ?_ | refine Jy s1 ?_ | refine Jy s2 ?_ | refine Jy g1 ?_)
      refine ⟨⟨_, _, rfl, rfl, ?_⟩⟩
      exact AvLe.refl _
  · rw [if_neg ha0] at s1
    by_cases hb0 : 0 < b
    · rw [if_pos hb0] at s2
      have e : cmpZ a.natAbs b.natAbs = -1 := by unfold cmpZ; rw [if_pos (by omega)]
      rw [e]
      refine fn_sp (C := CX) [] [] tysX_ok mixed Tryz.func31 rfl (by kernel_rfl) Tryz.ntmps31 rfl rfl ?_
      repeat' ((conv => whnf); first | refine Ja ?_ | refine Jb ?_ | refine Jc ?_ | refine Jd ?_ | refine Je ?_ | refine Jf ?_ | refine Jg rfl ?_ | refine Jh rfl ?_ | refine Ji ?_ | refine Jj ?_ | refine Jk rfl ?_ | refine Jl ?_ | refine Jm ?_ | refine Jn rfl ?_ | refine Jo ?_ | refine Jp ?_ | refine Jq rfl ?_ | refine Jr ?_ | refine Js ?_ | refine Jt rfl ?_ | refine Ju ?_ | refine Jv ?_ | refine Jw ?_ | refine Jx rfl ?_ | refine Jy s1 ?_ | refine Jy s2 ?_ | refine Jy g2 ?_)
      refine ⟨⟨_, _, rfl, rfl, ?_⟩⟩
      exact AvLe.refl _
    · rw [if_neg hb0] at s2
      have e : cmpZ a.natAbs b.natAbs = 0 := by unfold cmpZ; rw [if_neg (by omega), if_pos (by omega)]
      rw [e] at c cv ⊢
      refine fn_sp (C := CX) [] [] tysX_ok mixed Tryz.func31 rfl (by kernel_rfl) Tryz.ntmps31 rfl rfl ?_
      repeat' ((conv => whnf); first | refine Ja ?_ | refine Jb ?_ | refine Jc ?_ | refine Jd ?_ | refine Je ?_ | refine Jf ?_ | refine Jg rfl ?_ | refine Jh rfl ?_ | refine Ji ?_ | refine Jj ?_ | refine Jk rfl ?_ | refine Jl ?_ | refine Jm ?_ | refine Jn rfl ?_ | refine Jo ?_ | refine Jp ?_ | refine Jq rfl ?_ | refine Jr ?_ | refine Js ?_ | refine Jt rfl ?_ | refine Ju ?_ | refine Jv ?_ | refine Jw ?_ | refine Jx rfl ?_ | refine Jy s1 ?_ | refine Jy s2 ?_ | refine Jy t1 ?_ | refine Jy t2 ?_ | refine Jy c ?_)
      refine ⟨⟨_, _, rfl, rfl, ?_⟩⟩
      exact AvLe.refl _
end Go.Proofs.YtjijdabbhfefjaaGreatDoor

/- The statements about traces: the walk of bounds. -/
namespace Go.Proofs.YtjijdabbhfefjaaGreatDoor
open Go Go.RowKit Go.VG HP
theorem trE_sp {L K D n : Int} (h : dchk L K D ≠ 0) : trE L K D n ≠ 0 := by unfold trE; rw [if_pos h]; exact h
structure BndOk (N k : Nat) (Δ : Int) (p : Nat) (X c : Int) : Prop where
  t : Sp CX 16 [specA N k Δ, int .i64 p] (.tup [zV X, .c (ix 0)])
  x : ln X.natAbs ≤ 100
  c1 : -100000 ≤ c
  c2 : c ≤ 100000
  cs : Sp CX 25 [specA N k Δ] (.tup [.c (ix c), .c (ix 0)])
  k1 : 2 ≤ k
  k2 : k ≤ 24
  b : X * X ≤ (p : Int) ^ (k - 1) * (4 * c * c)
theorem cmp_le {x y : Int} (hx : 0 ≤ x) (hy : 0 ≤ y) (h : x ≤ y) : cmpZ x.natAbs y.natAbs ≤ 0 ∧ -1 ≤ cmpZ x.natAbs y.natAbs := by
  unfold cmpZ
  split
  · omega
  · rw [if_pos (by omega)]; omega
theorem cusp_any (L K D : Int) : ∃ d f : Int, Sp CX 25 [specA L K D] (.tup [.c (ix d), .c (ix f)]) := by
  by_cases hd : dchk L K D = 0
  · obtain ⟨N, k, rfl, rfl, ok⟩ := dchk_out hd
    exact ⟨_, _, cusp_ok N k D ok⟩
  · exact ⟨_, _, cusp_bad L K D hd⟩
theorem sq_nn (x : Int) : 0 ≤ x * x := by
  have e := Int.natAbs_mul_self (a := x)
  omega
set_option maxHeartbeats 4000000 in
theorem bnd2_bad (L K D : Int) (i : Nat) (hi : i % 10 = 0) (h : trE L K D 2 ≠ 0) : Sp CX 10 [specA L K D, int .u8 i] (bool true) := by
  have s0 := tawake_sp
  have em : (i : Int).tmod 10 = ((i % 10 : Nat) : Int) := (Int.ofNat_tmod i 10).symm
  have t := Trace_bad L K D 2 h
  obtain ⟨d, f, c⟩ := cusp_any L K D
  generalize trE L K D 2 = e at *
  refine fn_sp (C := CX) [] [] tysX_ok mixed Tryz.func10 rfl (by kernel_rfl) Tryz.ntmps10 rfl rfl ?_
  repeat' ((conv => whnf); first | (refine Idx.mk ⟨0, by omega, by decide, ?_⟩) | refine Ja ?_ | refine Jb ?_ | refine Jc ?_ | refine Jd ?_ | refine Je ?_ | refine Jf ?_ | refine Jg rfl ?_ | refine Jh rfl ?_ | refine Ji ?_ | refine Jj ?_ | refine Jk rfl ?_ | refine Jl ?_ | refine Jm ?_ | refine Jn rfl ?_ | refine Jo ?_ | refine Jp ?_ | refine Jq rfl ?_ | refine Jr ?_ | refine Js ?_ | refine Jt rfl ?_ | refine Ju ?_ | refine Jv ?_ | refine Jw ?_ | refine Jx rfl ?_ | refine Jy s0 ?_ | refine Jy t ?_ | refine Jy c ?_)
  refine ⟨⟨_, _, rfl, rfl, ?_⟩⟩
  exact AvLe.bool rfl
set_option maxHeartbeats 4000000 in
theorem bnd2_ok (N k : Nat) (D X c : Int) (i : Nat) (hi : i % 10 = 0) (h : BndOk N k D 2 X c) : Sp CX 10 [specA N k D, int .u8 i] (bool true) := by
  have s0 := tawake_sp
  have em : (i : Int).tmod 10 = ((i % 10 : Nat) : Int) := (Int.ofNat_tmod i 10).symm
  obtain ⟨t, lx, c1, c2, cs, k1, k2, b⟩ := h
  have cc := mulbz (x := c) (y := c) (X := 100000) (Y := 100000) (by omega) (by omega)
  have c4 := mulbz (x := 4 * c) (y := c) (X := 400000) (Y := 100000) (by omega) (by omega)
  have z1 := Z_sp 2 (by omega) (by omega)
  have z2 := Z_sp (4 * c * c) (by omega) (by omega)
  have pw := BPow_sp 2 (k - 1) (by decide) (by omega)
  have lp := ln_pow (a := 2) (by decide) (k - 1)
  have p0 : (0 : Int) ≤ 2 ^ (k - 1) := Int.pow_nonneg (by omega)
  have m1 := BMul_sp X X (by omega) (by omega)
  have l4 : ln (4 * c * c).natAbs ≤ 2 := ln64 (by omega) (by omega)
  have m2 := BMul_sp (2 ^ (k - 1)) (4 * c * c) (by omega) (by omega)
  have q0 : 0 ≤ 4 * c * c := by have := sq_nn c; rw [Int.mul_assoc]; omega
  have b0 : 0 ≤ 2 ^ (k - 1) * (4 * c * c) := Int.mul_nonneg p0 q0
  have cm := BCmp_sp (X * X) (2 ^ (k - 1) * (4 * c * c)) (sq_nn X) b0 (by rw [Int.natAbs_mul]; have := ln_mul X.natAbs X.natAbs; omega) (by rw [Int.natAbs_mul]; have := ln_mul (2 ^ (k - 1) : Int).natAbs (4 * c * c).natAbs; omega)
  have cv := cmp_le (sq_nn X) b0 b
  generalize cmpZ (X * X).natAbs (2 ^ (k - 1) * (4 * c * c)).natAbs = r at *
  generalize (2 : Int) ^ (k - 1) = Q at *
  clear b lp
  refine fn_sp (C := CX) [] [] tysX_ok mixed Tryz.func10 rfl (by kernel_rfl) Tryz.ntmps10 rfl rfl ?_
  repeat' ((conv => whnf); first | (refine Idx.mk ⟨0, by omega, by decide, ?_⟩) | refine Ja ?_ | refine Jb ?_ | refine Jc ?_ | refine Jd ?_ | refine Je ?_ | refine Jf ?_ | refine Jg rfl ?_ | refine Jh rfl ?_ | refine Ji ?_ | refine Jj ?_ | refine Jk rfl ?_ | refine Jl ?_ | refine Jm ?_ | refine Jn rfl ?_ | refine Jo ?_ | refine Jp ?_ | refine Jq rfl ?_ | refine Jr ?_ | refine Js ?_ | refine Jt rfl ?_ | refine Ju ?_ | refine Jv ?_ | refine Jw ?_ | refine Jx rfl ?_ | refine Jy s0 ?_ | refine Jy t ?_ | refine Jy cs ?_ | refine Jy z1 ?_ | refine Jy z2 ?_ | refine Sp.call (pw) (.cons (.refl _) (.cons (.int (by omega)) .nil)) rfl (AvLe.refl _) ?_ | refine Jy m1 ?_ | refine Jy m2 ?_ | refine Jy cm ?_)
  refine ⟨⟨_, _, rfl, rfl, ?_⟩⟩
  exact AvLe.bool (decide_eq_true cv.1)
set_option maxHeartbeats 4000000 in
theorem bnd3_bad (L K D : Int) (i : Nat) (hi : i % 10 = 1) (h : trE L K D 3 ≠ 0) : Sp CX 10 [specA L K D, int .u8 i] (bool true) := by
  have s0 := tawake_sp
  have em : (i : Int).tmod 10 = ((i % 10 : Nat) : Int) := (Int.ofNat_tmod i 10).symm
  have t := Trace_bad L K D 3 h
  obtain ⟨d, f, c⟩ := cusp_any L K D
  generalize trE L K D 3 = e at *
  refine fn_sp (C := CX) [] [] tysX_ok mixed Tryz.func10 rfl (by kernel_rfl) Tryz.ntmps10 rfl rfl ?_
  repeat' ((conv => whnf); first | (refine Idx.mk ⟨1, by omega, by decide, ?_⟩) | refine Ja ?_ | refine Jb ?_ | refine Jc ?_ | refine Jd ?_ | refine Je ?_ | refine Jf ?_ | refine Jg rfl ?_ | refine Jh rfl ?_ | refine Ji ?_ | refine Jj ?_ | refine Jk rfl ?_ | refine Jl ?_ | refine Jm ?_ | refine Jn rfl ?_ | refine Jo ?_ | refine Jp ?_ | refine Jq rfl ?_ | refine Jr ?_ | refine Js ?_ | refine Jt rfl ?_ | refine Ju ?_ | refine Jv ?_ | refine Jw ?_ | refine Jx rfl ?_ | refine Jy s0 ?_ | refine Jy t ?_ | refine Jy c ?_)
  refine ⟨⟨_, _, rfl, rfl, ?_⟩⟩
  exact AvLe.bool rfl
set_option maxHeartbeats 4000000 in
theorem bnd3_ok (N k : Nat) (D X c : Int) (i : Nat) (hi : i % 10 = 1) (h : BndOk N k D 3 X c) : Sp CX 10 [specA N k D, int .u8 i] (bool true) := by
  have s0 := tawake_sp
  have em : (i : Int).tmod 10 = ((i % 10 : Nat) : Int) := (Int.ofNat_tmod i 10).symm
  obtain ⟨t, lx, c1, c2, cs, k1, k2, b⟩ := h
  have cc := mulbz (x := c) (y := c) (X := 100000) (Y := 100000) (by omega) (by omega)
  have c4 := mulbz (x := 4 * c) (y := c) (X := 400000) (Y := 100000) (by omega) (by omega)
  have z1 := Z_sp 3 (by omega) (by omega)
  have z2 := Z_sp (4 * c * c) (by omega) (by omega)
  have pw := BPow_sp 3 (k - 1) (by decide) (by omega)
  have lp := ln_pow (a := 3) (by decide) (k - 1)
  have p0 : (0 : Int) ≤ 3 ^ (k - 1) := Int.pow_nonneg (by omega)
  have m1 := BMul_sp X X (by omega) (by omega)
  have l4 : ln (4 * c * c).natAbs ≤ 2 := ln64 (by omega) (by omega)
  have m2 := BMul_sp (3 ^ (k - 1)) (4 * c * c) (by omega) (by omega)
  have q0 : 0 ≤ 4 * c * c := by have := sq_nn c; rw [Int.mul_assoc]; omega
  have b0 : 0 ≤ 3 ^ (k - 1) * (4 * c * c) := Int.mul_nonneg p0 q0
  have cm := BCmp_sp (X * X) (3 ^ (k - 1) * (4 * c * c)) (sq_nn X) b0 (by rw [Int.natAbs_mul]; have := ln_mul X.natAbs X.natAbs; omega) (by rw [Int.natAbs_mul]; have := ln_mul (3 ^ (k - 1) : Int).natAbs (4 * c * c).natAbs; omega)
  have cv := cmp_le (sq_nn X) b0 b
  generalize cmpZ (X * X).natAbs (3 ^ (k - 1) * (4 * c * c)).natAbs = r at *
  generalize (3 : Int) ^ (k - 1) = Q at *
  clear b lp
  refine fn_sp (C := CX) [] [] tysX_ok mixed Tryz.func10 rfl (by kernel_rfl) Tryz.ntmps10 rfl rfl ?_
  repeat' ((conv => whnf); first | (refine Idx.mk ⟨1, by omega, by decide, ?_⟩) | refine Ja ?_ | refine Jb ?_ | refine Jc ?_ | refine Jd ?_ | refine Je ?_ | refine Jf ?_ | refine Jg rfl ?_ | refine Jh rfl ?_ | refine Ji ?_ | refine Jj ?_ | refine Jk rfl ?_ | refine Jl ?_ | refine Jm ?_ | refine Jn rfl ?_ | refine Jo ?_ | refine Jp ?_ | refine Jq rfl ?_ | refine Jr ?_ | refine Js ?_ | refine Jt rfl ?_ | refine Ju ?_ | refine Jv ?_ | refine Jw ?_ | refine Jx rfl ?_ | refine Jy s0 ?_ | refine Jy t ?_ | refine Jy cs ?_ | refine Jy z1 ?_ | refine Jy z2 ?_ | refine Sp.call (pw) (.cons (.refl _) (.cons (.int (by omega)) .nil)) rfl (AvLe.refl _) ?_ | refine Jy m1 ?_ | refine Jy m2 ?_ | refine Jy cm ?_)
  refine ⟨⟨_, _, rfl, rfl, ?_⟩⟩
  exact AvLe.bool (decide_eq_true cv.1)
set_option maxHeartbeats 4000000 in
theorem bnd5_bad (L K D : Int) (i : Nat) (hi : i % 10 = 2) (h : trE L K D 5 ≠ 0) : Sp CX 10 [specA L K D, int .u8 i] (bool true) := by
  have s0 := tawake_sp
  have em : (i : Int).tmod 10 = ((i % 10 : Nat) : Int) := (Int.ofNat_tmod i 10).symm
  have t := Trace_bad L K D 5 h
  obtain ⟨d, f, c⟩ := cusp_any L K D
  generalize trE L K D 5 = e at *
  refine fn_sp (C := CX) [] [] tysX_ok mixed Tryz.func10 rfl (by kernel_rfl) Tryz.ntmps10 rfl rfl ?_
  repeat' ((conv => whnf); first | (refine Idx.mk ⟨2, by omega, by decide, ?_⟩) | refine Ja ?_ | refine Jb ?_ | refine Jc ?_ | refine Jd ?_ | refine Je ?_ | refine Jf ?_ | refine Jg rfl ?_ | refine Jh rfl ?_ | refine Ji ?_ | refine Jj ?_ | refine Jk rfl ?_ | refine Jl ?_ | refine Jm ?_ | refine Jn rfl ?_ | refine Jo ?_ | refine Jp ?_ | refine Jq rfl ?_ | refine Jr ?_ | refine Js ?_ | refine Jt rfl ?_ | refine Ju ?_ | refine Jv ?_ | refine Jw ?_ | refine Jx rfl ?_ | refine Jy s0 ?_ | refine Jy t ?_ | refine Jy c ?_)
  refine ⟨⟨_, _, rfl, rfl, ?_⟩⟩
  exact AvLe.bool rfl
set_option maxHeartbeats 4000000 in
theorem bnd5_ok (N k : Nat) (D X c : Int) (i : Nat) (hi : i % 10 = 2) (h : BndOk N k D 5 X c) : Sp CX 10 [specA N k D, int .u8 i] (bool true) := by
  have s0 := tawake_sp
  have em : (i : Int).tmod 10 = ((i % 10 : Nat) : Int) := (Int.ofNat_tmod i 10).symm
  obtain ⟨t, lx, c1, c2, cs, k1, k2, b⟩ := h
  have cc := mulbz (x := c) (y := c) (X := 100000) (Y := 100000) (by omega) (by omega)
  have c4 := mulbz (x := 4 * c) (y := c) (X := 400000) (Y := 100000) (by omega) (by omega)
  have z1 := Z_sp 5 (by omega) (by omega)
  have z2 := Z_sp (4 * c * c) (by omega) (by omega)
  have pw := BPow_sp 5 (k - 1) (by decide) (by omega)
  have lp := ln_pow (a := 5) (by decide) (k - 1)
  have p0 : (0 : Int) ≤ 5 ^ (k - 1) := Int.pow_nonneg (by omega)
  have m1 := BMul_sp X X (by omega) (by omega)
  have l4 : ln (4 * c * c).natAbs ≤ 2 := ln64 (by omega) (by omega)
  have m2 := BMul_sp (5 ^ (k - 1)) (4 * c * c) (by omega) (by omega)
  have q0 : 0 ≤ 4 * c * c := by have := sq_nn c; rw [Int.mul_assoc]; omega
  have b0 : 0 ≤ 5 ^ (k - 1) * (4 * c * c) := Int.mul_nonneg p0 q0
  have cm := BCmp_sp (X * X) (5 ^ (k - 1) * (4 * c * c)) (sq_nn X) b0 (by rw [Int.natAbs_mul]; have := ln_mul X.natAbs X.natAbs; omega) (by rw [Int.natAbs_mul]; have := ln_mul (5 ^ (k - 1) : Int).natAbs (4 * c * c).natAbs; omega)
  have cv := cmp_le (sq_nn X) b0 b
  generalize cmpZ (X * X).natAbs (5 ^ (k - 1) * (4 * c * c)).natAbs = r at *
  generalize (5 : Int) ^ (k - 1) = Q at *
  clear b lp
  refine fn_sp (C := CX) [] [] tysX_ok mixed Tryz.func10 rfl (by kernel_rfl) Tryz.ntmps10 rfl rfl ?_
  repeat' ((conv => whnf); first | (refine Idx.mk ⟨2, by omega, by decide, ?_⟩) | refine Ja ?_ | refine Jb ?_ | refine Jc ?_ | refine Jd ?_ | refine Je ?_ | refine Jf ?_ | refine Jg rfl ?_ | refine Jh rfl ?_ | refine Ji ?_ | refine Jj ?_ | refine Jk rfl ?_ | refine Jl ?_ | refine Jm ?_ | refine Jn rfl ?_ | refine Jo ?_ | refine Jp ?_ | refine Jq rfl ?_ | refine Jr ?_ | refine Js ?_ | refine Jt rfl ?_ | refine Ju ?_ | refine Jv ?_ | refine Jw ?_ | refine Jx rfl ?_ | refine Jy s0 ?_ | refine Jy t ?_ | refine Jy cs ?_ | refine Jy z1 ?_ | refine Jy z2 ?_ | refine Sp.call (pw) (.cons (.refl _) (.cons (.int (by omega)) .nil)) rfl (AvLe.refl _) ?_ | refine Jy m1 ?_ | refine Jy m2 ?_ | refine Jy cm ?_)
  refine ⟨⟨_, _, rfl, rfl, ?_⟩⟩
  exact AvLe.bool (decide_eq_true cv.1)
set_option maxHeartbeats 4000000 in
theorem bnd7_bad (L K D : Int) (i : Nat) (hi : i % 10 = 3) (h : trE L K D 7 ≠ 0) : Sp CX 10 [specA L K D, int .u8 i] (bool true) := by
  have s0 := tawake_sp
  have em : (i : Int).tmod 10 = ((i % 10 : Nat) : Int) := (Int.ofNat_tmod i 10).symm
  have t := Trace_bad L K D 7 h
  obtain ⟨d, f, c⟩ := cusp_any L K D
  generalize trE L K D 7 = e at *
  refine fn_sp (C := CX) [] [] tysX_ok mixed Tryz.func10 rfl (by kernel_rfl) Tryz.ntmps10 rfl rfl ?_
  repeat' ((conv => whnf); first | (refine Idx.mk ⟨3, by omega, by decide, ?_⟩) | refine Ja ?_ | refine Jb ?_ | refine Jc ?_ | refine Jd ?_ | refine Je ?_ | refine Jf ?_ | refine Jg rfl ?_ | refine Jh rfl ?_ | refine Ji ?_ | refine Jj ?_ | refine Jk rfl ?_ | refine Jl ?_ | refine Jm ?_ | refine Jn rfl ?_ | refine Jo ?_ | refine Jp ?_ | refine Jq rfl ?_ | refine Jr ?_ | refine Js ?_ | refine Jt rfl ?_ | refine Ju ?_ | refine Jv ?_ | refine Jw ?_ | refine Jx rfl ?_ | refine Jy s0 ?_ | refine Jy t ?_ | refine Jy c ?_)
  refine ⟨⟨_, _, rfl, rfl, ?_⟩⟩
  exact AvLe.bool rfl
set_option maxHeartbeats 4000000 in
theorem bnd7_ok (N k : Nat) (D X c : Int) (i : Nat) (hi : i % 10 = 3) (h : BndOk N k D 7 X c) : Sp CX 10 [specA N k D, int .u8 i] (bool true) := by
  have s0 := tawake_sp
  have em : (i : Int).tmod 10 = ((i % 10 : Nat) : Int) := (Int.ofNat_tmod i 10).symm
  obtain ⟨t, lx, c1, c2, cs, k1, k2, b⟩ := h
  have cc := mulbz (x := c) (y := c) (X := 100000) (Y := 100000) (by omega) (by omega)
  have c4 := mulbz (x := 4 * c) (y := c) (X := 400000) (Y := 100000) (by omega) (by omega)
  have z1 := Z_sp 7 (by omega) (by omega)
  have z2 := Z_sp (4 * c * c) (by omega) (by omega)
  have pw := BPow_sp 7 (k - 1) (by decide) (by omega)
  have lp := ln_pow (a := 7) (by decide) (k - 1)
  have p0 : (0 : Int) ≤ 7 ^ (k - 1) := Int.pow_nonneg (by omega)
  have m1 := BMul_sp X X (by omega) (by omega)
  have l4 : ln (4 * c * c).natAbs ≤ 2 := ln64 (by omega) (by omega)
  have m2 := BMul_sp (7 ^ (k - 1)) (4 * c * c) (by omega) (by omega)
  have q0 : 0 ≤ 4 * c * c := by have := sq_nn c; rw [Int.mul_assoc]; omega
  have b0 : 0 ≤ 7 ^ (k - 1) * (4 * c * c) := Int.mul_nonneg p0 q0
  have cm := BCmp_sp (X * X) (7 ^ (k - 1) * (4 * c * c)) (sq_nn X) b0 (by rw [Int.natAbs_mul]; have := ln_mul X.natAbs X.natAbs; omega) (by rw [Int.natAbs_mul]; have := ln_mul (7 ^ (k - 1) : Int).natAbs (4 * c * c).natAbs; omega)
  have cv := cmp_le (sq_nn X) b0 b
  generalize cmpZ (X * X).natAbs (7 ^ (k - 1) * (4 * c * c)).natAbs = r at *
  generalize (7 : Int) ^ (k - 1) = Q at *
  clear b lp
  refine fn_sp (C := CX) [] [] tysX_ok mixed Tryz.func10 rfl (by kernel_rfl) Tryz.ntmps10 rfl rfl ?_
  repeat' ((conv => whnf); first | (refine Idx.mk ⟨3, by omega, by decide, ?_⟩) | refine Ja ?_ | refine Jb ?_ | refine Jc ?_ | refine Jd ?_ | refine Je ?_ | refine Jf ?_ | refine Jg rfl ?_ | refine Jh rfl ?_ | refine Ji ?_ | refine Jj ?_ | refine Jk rfl ?_ | refine Jl ?_ | refine Jm ?_ | refine Jn rfl ?_ | refine Jo ?_ | refine Jp ?_ | refine Jq rfl ?_ | refine Jr ?_ | refine Js ?_ | refine Jt rfl ?_ | refine Ju ?_ | refine Jv ?_ | refine Jw ?_ | refine Jx rfl ?_ | refine Jy s0 ?_ | refine Jy t ?_ | refine Jy cs ?_ | refine Jy z1 ?_ | refine Jy z2 ?_ | refine Sp.call (pw) (.cons (.refl _) (.cons (.int (by omega)) .nil)) rfl (AvLe.refl _) ?_ | refine Jy m1 ?_ | refine Jy m2 ?_ | refine Jy cm ?_)
  refine ⟨⟨_, _, rfl, rfl, ?_⟩⟩
  exact AvLe.bool (decide_eq_true cv.1)
set_option maxHeartbeats 4000000 in
theorem bnd11_bad (L K D : Int) (i : Nat) (hi : i % 10 = 4) (h : trE L K D 11 ≠ 0) : Sp CX 10 [specA L K D, int .u8 i] (bool true) := by
  have s0 := tawake_sp
  have em : (i : Int).tmod 10 = ((i % 10 : Nat) : Int) := (Int.ofNat_tmod i 10).symm
  have t := Trace_bad L K D 11 h
  obtain ⟨d, f, c⟩ := cusp_any L K D
  generalize trE L K D 11 = e at *
  refine fn_sp (C := CX) [] [] tysX_ok mixed Tryz.func10 rfl (by kernel_rfl) Tryz.ntmps10 rfl rfl ?_
  repeat' ((conv => whnf); first | (refine Idx.mk ⟨4, by omega, by decide, ?_⟩) | refine Ja ?_ | refine Jb ?_ | refine Jc ?_ | refine Jd ?_ | refine Je ?_ | refine Jf ?_ | refine Jg rfl ?_ | refine Jh rfl ?_ | refine Ji ?_ | refine Jj ?_ | refine Jk rfl ?_ | refine Jl ?_ | refine Jm ?_ | refine Jn rfl ?_ | refine Jo ?_ | refine Jp ?_ | refine Jq rfl ?_ | refine Jr ?_ | refine Js ?_ | refine Jt rfl ?_ | refine Ju ?_ | refine Jv ?_ | refine Jw ?_ | refine Jx rfl ?_ | refine Jy s0 ?_ | refine Jy t ?_ | refine Jy c ?_)
  refine ⟨⟨_, _, rfl, rfl, ?_⟩⟩
  exact AvLe.bool rfl
set_option maxHeartbeats 4000000 in
theorem bnd11_ok (N k : Nat) (D X c : Int) (i : Nat) (hi : i % 10 = 4) (h : BndOk N k D 11 X c) : Sp CX 10 [specA N k D, int .u8 i] (bool true) := by
  have s0 := tawake_sp
  have em : (i : Int).tmod 10 = ((i % 10 : Nat) : Int) := (Int.ofNat_tmod i 10).symm
  obtain ⟨t, lx, c1, c2, cs, k1, k2, b⟩ := h
  have cc := mulbz (x := c) (y := c) (X := 100000) (Y := 100000) (by omega) (by omega)
  have c4 := mulbz (x := 4 * c) (y := c) (X := 400000) (Y := 100000) (by omega) (by omega)
  have z1 := Z_sp 11 (by omega) (by omega)
  have z2 := Z_sp (4 * c * c) (by omega) (by omega)
  have pw := BPow_sp 11 (k - 1) (by decide) (by omega)
  have lp := ln_pow (a := 11) (by decide) (k - 1)
  have p0 : (0 : Int) ≤ 11 ^ (k - 1) := Int.pow_nonneg (by omega)
  have m1 := BMul_sp X X (by omega) (by omega)
  have l4 : ln (4 * c * c).natAbs ≤ 2 := ln64 (by omega) (by omega)
  have m2 := BMul_sp (11 ^ (k - 1)) (4 * c * c) (by omega) (by omega)
  have q0 : 0 ≤ 4 * c * c := by have := sq_nn c; rw [Int.mul_assoc]; omega
  have b0 : 0 ≤ 11 ^ (k - 1) * (4 * c * c) := Int.mul_nonneg p0 q0
  have cm := BCmp_sp (X * X) (11 ^ (k - 1) * (4 * c * c)) (sq_nn X) b0 (by rw [Int.natAbs_mul]; have := ln_mul X.natAbs X.natAbs; omega) (by rw [Int.natAbs_mul]; have := ln_mul (11 ^ (k - 1) : Int).natAbs (4 * c * c).natAbs; omega)
  have cv := cmp_le (sq_nn X) b0 b
  generalize cmpZ (X * X).natAbs (11 ^ (k - 1) * (4 * c * c)).natAbs = r at *
  generalize (11 : Int) ^ (k - 1) = Q at *
  clear b lp
  refine fn_sp (C := CX) [] [] tysX_ok mixed Tryz.func10 rfl (by kernel_rfl) Tryz.ntmps10 rfl rfl ?_
  repeat' ((conv => whnf); first | (refine Idx.mk ⟨4, by omega, by decide, ?_⟩) | refine Ja ?_ | refine Jb ?_ | refine Jc ?_ | refine Jd ?_ | refine Je ?_ | refine Jf ?_ | refine Jg rfl ?_ | refine Jh rfl ?_ | refine Ji ?_ | refine Jj ?_ | refine Jk rfl ?_ | refine Jl ?_ | refine Jm ?_ | refine Jn rfl ?_ | refine Jo ?_ | refine Jp ?_ | refine Jq rfl ?_ | refine Jr ?_ | refine Js ?_ | refine Jt rfl ?_ | refine Ju ?_ | refine Jv ?_ | refine Jw ?_ | refine Jx rfl ?_ | refine Jy s0 ?_ | refine Jy t ?_ | refine Jy cs ?_ | refine Jy z1 ?_ | refine Jy z2 ?_ | refine Sp.call (pw) (.cons (.refl _) (.cons (.int (by omega)) .nil)) rfl (AvLe.refl _) ?_ | refine Jy m1 ?_ | refine Jy m2 ?_ | refine Jy cm ?_)
  refine ⟨⟨_, _, rfl, rfl, ?_⟩⟩
  exact AvLe.bool (decide_eq_true cv.1)
set_option maxHeartbeats 4000000 in
theorem bnd13_bad (L K D : Int) (i : Nat) (hi : i % 10 = 5) (h : trE L K D 13 ≠ 0) : Sp CX 10 [specA L K D, int .u8 i] (bool true) := by
  have s0 := tawake_sp
  have em : (i : Int).tmod 10 = ((i % 10 : Nat) : Int) := (Int.ofNat_tmod i 10).symm
  have t := Trace_bad L K D 13 h
  obtain ⟨d, f, c⟩ := cusp_any L K D
  generalize trE L K D 13 = e at *
  refine fn_sp (C := CX) [] [] tysX_ok mixed Tryz.func10 rfl (by kernel_rfl) Tryz.ntmps10 rfl rfl ?_
  repeat' ((conv => whnf); first | (refine Idx.mk ⟨5, by omega, by decide, ?_⟩) | refine Ja ?_ | refine Jb ?_ | refine Jc ?_ | refine Jd ?_ | refine Je ?_ | refine Jf ?_ | refine Jg rfl ?_ | refine Jh rfl ?_ | refine Ji ?_ | refine Jj ?_ | refine Jk rfl ?_ | refine Jl ?_ | refine Jm ?_ | refine Jn rfl ?_ | refine Jo ?_ | refine Jp ?_ | refine Jq rfl ?_ | refine Jr ?_ | refine Js ?_ | refine Jt rfl ?_ | refine Ju ?_ | refine Jv ?_ | refine Jw ?_ | refine Jx rfl ?_ | refine Jy s0 ?_ | refine Jy t ?_ | refine Jy c ?_)
  refine ⟨⟨_, _, rfl, rfl, ?_⟩⟩
  exact AvLe.bool rfl
set_option maxHeartbeats 4000000 in
theorem bnd13_ok (N k : Nat) (D X c : Int) (i : Nat) (hi : i % 10 = 5) (h : BndOk N k D 13 X c) : Sp CX 10 [specA N k D, int .u8 i] (bool true) := by
  have s0 := tawake_sp
  have em : (i : Int).tmod 10 = ((i % 10 : Nat) : Int) := (Int.ofNat_tmod i 10).symm
  obtain ⟨t, lx, c1, c2, cs, k1, k2, b⟩ := h
  have cc := mulbz (x := c) (y := c) (X := 100000) (Y := 100000) (by omega) (by omega)
  have c4 := mulbz (x := 4 * c) (y := c) (X := 400000) (Y := 100000) (by omega) (by omega)
  have z1 := Z_sp 13 (by omega) (by omega)
  have z2 := Z_sp (4 * c * c) (by omega) (by omega)
  have pw := BPow_sp 13 (k - 1) (by decide) (by omega)
  have lp := ln_pow (a := 13) (by decide) (k - 1)
  have p0 : (0 : Int) ≤ 13 ^ (k - 1) := Int.pow_nonneg (by omega)
  have m1 := BMul_sp X X (by omega) (by omega)
  have l4 : ln (4 * c * c).natAbs ≤ 2 := ln64 (by omega) (by omega)
  have m2 := BMul_sp (13 ^ (k - 1)) (4 * c * c) (by omega) (by omega)
  have q0 : 0 ≤ 4 * c * c := by have := sq_nn c; rw [Int.mul_assoc]; omega
  have b0 : 0 ≤ 13 ^ (k - 1) * (4 * c * c) := Int.mul_nonneg p0 q0
  have cm := BCmp_sp (X * X) (13 ^ (k - 1) * (4 * c * c)) (sq_nn X) b0 (by rw [Int.natAbs_mul]; have := ln_mul X.natAbs X.natAbs; omega) (by rw [Int.natAbs_mul]; have := ln_mul (13 ^ (k - 1) : Int).natAbs (4 * c * c).natAbs; omega)
  have cv := cmp_le (sq_nn X) b0 b
  generalize cmpZ (X * X).natAbs (13 ^ (k - 1) * (4 * c * c)).natAbs = r at *
  generalize (13 : Int) ^ (k - 1) = Q at *
  clear b lp
  refine fn_sp (C := CX) [] [] tysX_ok mixed Tryz.func10 rfl (by kernel_rfl) Tryz.ntmps10 rfl rfl ?_
  repeat' ((conv => whnf); first | (refine Idx.mk ⟨5, by omega, by decide, ?_⟩) | refine Ja ?_ | refine Jb ?_ | refine Jc ?_ | refine Jd ?_ | refine Je ?_ | refine Jf ?_ | refine Jg rfl ?_ | refine Jh rfl ?_ | refine Ji ?_ | refine Jj ?_ | refine Jk rfl ?_ | refine Jl ?_ | refine Jm ?_ | refine Jn rfl ?_ | refine Jo ?_ | refine Jp ?_ | refine Jq rfl ?_ | refine Jr ?_ | refine Js ?_ | refine Jt rfl ?_ | refine Ju ?_ | refine Jv ?_ | refine Jw ?_ | refine Jx rfl ?_ | refine Jy s0 ?_ | refine Jy t ?_ | refine Jy cs ?_ | refine Jy z1 ?_ | refine Jy z2 ?_ | refine Sp.call (pw) (.cons (.refl _) (.cons (.int (by omega)) .nil)) rfl (AvLe.refl _) ?_ | refine Jy m1 ?_ | refine Jy m2 ?_ | refine Jy cm ?_)
  refine ⟨⟨_, _, rfl, rfl, ?_⟩⟩
  exact AvLe.bool (decide_eq_true cv.1)
set_option maxHeartbeats 4000000 in
theorem bnd17_bad (L K D : Int) (i : Nat) (hi : i % 10 = 6) (h : trE L K D 17 ≠ 0) : Sp CX 10 [specA L K D, int .u8 i] (bool true) := by
  have s0 := tawake_sp
  have em : (i : Int).tmod 10 = ((i % 10 : Nat) : Int) := (Int.ofNat_tmod i 10).symm
  have t := Trace_bad L K D 17 h
  obtain ⟨d, f, c⟩ := cusp_any L K D
  generalize trE L K D 17 = e at *
  refine fn_sp (C := CX) [] [] tysX_ok mixed Tryz.func10 rfl (by kernel_rfl) Tryz.ntmps10 rfl rfl ?_
  repeat' ((conv => whnf); first | (refine Idx.mk ⟨6, by omega, by decide, ?_⟩) | refine Ja ?_ | refine Jb ?_ | refine Jc ?_ | refine Jd ?_ | refine Je ?_ | refine Jf ?_ | refine Jg rfl ?_ | refine Jh rfl ?_ | refine Ji ?_ | refine Jj ?_ | refine Jk rfl ?_ | refine Jl ?_ | refine Jm ?_ | refine Jn rfl ?_ | refine Jo ?_ | refine Jp ?_ | refine Jq rfl ?_ | refine Jr ?_ | refine Js ?_ | refine Jt rfl ?_ | refine Ju ?_ | refine Jv ?_ | refine Jw ?_ | refine Jx rfl ?_ | refine Jy s0 ?_ | refine Jy t ?_ | refine Jy c ?_)
  refine ⟨⟨_, _, rfl, rfl, ?_⟩⟩
  exact AvLe.bool rfl
set_option maxHeartbeats 4000000 in
theorem bnd17_ok (N k : Nat) (D X c : Int) (i : Nat) (hi : i % 10 = 6) (h : BndOk N k D 17 X c) : Sp CX 10 [specA N k D, int .u8 i] (bool true) := by
  have s0 := tawake_sp
  have em : (i : Int).tmod 10 = ((i % 10 : Nat) : Int) := (Int.ofNat_tmod i 10).symm
  obtain ⟨t, lx, c1, c2, cs, k1, k2, b⟩ := h
  have cc := mulbz (x := c) (y := c) (X := 100000) (Y := 100000) (by omega) (by omega)
  have c4 := mulbz (x := 4 * c) (y := c) (X := 400000) (Y := 100000) (by omega) (by omega)
  have z1 := Z_sp 17 (by omega) (by omega)
  have z2 := Z_sp (4 * c * c) (by omega) (by omega)
  have pw := BPow_sp 17 (k - 1) (by decide) (by omega)
  have lp := ln_pow (a := 17) (by decide) (k - 1)
  have p0 : (0 : Int) ≤ 17 ^ (k - 1) := Int.pow_nonneg (by omega)
  have m1 := BMul_sp X X (by omega) (by omega)
  have l4 : ln (4 * c * c).natAbs ≤ 2 := ln64 (by omega) (by omega)
  have m2 := BMul_sp (17 ^ (k - 1)) (4 * c * c) (by omega) (by omega)
  have q0 : 0 ≤ 4 * c * c := by have := sq_nn c; rw [Int.mul_assoc]; omega
  have b0 : 0 ≤ 17 ^ (k - 1) * (4 * c * c) := Int.mul_nonneg p0 q0
  have cm := BCmp_sp (X * X) (17 ^ (k - 1) * (4 * c * c)) (sq_nn X) b0 (by rw [Int.natAbs_mul]; have := ln_mul X.natAbs X.natAbs; omega) (by rw [Int.natAbs_mul]; have := ln_mul (17 ^ (k - 1) : Int).natAbs (4 * c * c).natAbs; omega)
  have cv := cmp_le (sq_nn X) b0 b
  generalize cmpZ (X * X).natAbs (17 ^ (k - 1) * (4 * c * c)).natAbs = r at *
  generalize (17 : Int) ^ (k - 1) = Q at *
  clear b lp
  refine fn_sp (C := CX) [] [] tysX_ok mixed Tryz.func10 rfl (by kernel_rfl) Tryz.ntmps10 rfl rfl ?_
  repeat' ((conv => whnf); first | (refine Idx.mk ⟨6, by omega, by decide, ?_⟩) | refine Ja ?_ | refine Jb ?_ | refine Jc ?_ | refine Jd ?_ | refine Je ?_ | refine Jf ?_ | refine Jg rfl ?_ | refine Jh rfl ?_ | refine Ji ?_ | refine Jj ?_ | refine Jk rfl ?_ | refine Jl ?_ | refine Jm ?_ | refine Jn rfl ?_ | refine Jo ?_ | refine Jp ?_ | refine Jq rfl ?_ | refine Jr ?_ | refine Js ?_ | refine Jt rfl ?_ | refine Ju ?_ | refine Jv ?_ | refine Jw ?_ | refine Jx rfl ?_ | refine Jy s0 ?_ | refine Jy t ?_ | refine Jy cs ?_ | refine Jy z1 ?_ | refine Jy z2 ?_ | refine Sp.call (pw) (.cons (.refl _) (.cons (.int (by omega)) .nil)) rfl (AvLe.refl _) ?_ | refine Jy m1 ?_ | refine Jy m2 ?_ | refine Jy cm ?_)
  refine ⟨⟨_, _, rfl, rfl, ?_⟩⟩
  exact AvLe.bool (decide_eq_true cv.1)
set_option maxHeartbeats 4000000 in
theorem bnd19_bad (L K D : Int) (i : Nat) (hi : i % 10 = 7) (h : trE L K D 19 ≠ 0) : Sp CX 10 [specA L K D, int .u8 i] (bool true) := by
  have s0 := tawake_sp
  have em : (i : Int).tmod 10 = ((i % 10 : Nat) : Int) := (Int.ofNat_tmod i 10).symm
  have t := Trace_bad L K D 19 h
  obtain ⟨d, f, c⟩ := cusp_any L K D
  generalize trE L K D 19 = e at *
  refine fn_sp (C := CX) [] [] tysX_ok mixed Tryz.func10 rfl (by kernel_rfl) Tryz.ntmps10 rfl rfl ?_
  repeat' ((conv => whnf); first | (refine Idx.mk ⟨7, by omega, by decide, ?_⟩) | refine Ja ?_ | refine Jb ?_ | refine Jc ?_ | refine Jd ?_ | refine Je ?_ | refine Jf ?_ | refine Jg rfl ?_ | refine Jh rfl ?_ | refine Ji ?_ | refine Jj ?_ | refine Jk rfl ?_ | refine Jl ?_ | refine Jm ?_ | refine Jn rfl ?_ | refine Jo ?_ | refine Jp ?_ | refine Jq rfl ?_ | refine Jr ?_ | refine Js ?_ | refine Jt rfl ?_ | refine Ju ?_ | refine Jv ?_ | refine Jw ?_ | refine Jx rfl ?_ | refine Jy s0 ?_ | refine Jy t ?_ | refine Jy c ?_)
  refine ⟨⟨_, _, rfl, rfl, ?_⟩⟩
  exact AvLe.bool rfl
set_option maxHeartbeats 4000000 in
theorem bnd19_ok (N k : Nat) (D X c : Int) (i : Nat) (hi : i % 10 = 7) (h : BndOk N k D 19 X c) : Sp CX 10 [specA N k D, int .u8 i] (bool true) := by
  have s0 := tawake_sp
  have em : (i : Int).tmod 10 = ((i % 10 : Nat) : Int) := (Int.ofNat_tmod i 10).symm
  obtain ⟨t, lx, c1, c2, cs, k1, k2, b⟩ := h
  have cc := mulbz (x := c) (y := c) (X := 100000) (Y := 100000) (by omega) (by omega)
  have c4 := mulbz (x := 4 * c) (y := c) (X := 400000) (Y := 100000) (by omega) (by omega)
  have z1 := Z_sp 19 (by omega) (by omega)
  have z2 := Z_sp (4 * c * c) (by omega) (by omega)
  have pw := BPow_sp 19 (k - 1) (by decide) (by omega)
  have lp := ln_pow (a := 19) (by decide) (k - 1)
  have p0 : (0 : Int) ≤ 19 ^ (k - 1) := Int.pow_nonneg (by omega)
  have m1 := BMul_sp X X (by omega) (by omega)
  have l4 : ln (4 * c * c).natAbs ≤ 2 := ln64 (by omega) (by omega)
  have m2 := BMul_sp (19 ^ (k - 1)) (4 * c * c) (by omega) (by omega)
  have q0 : 0 ≤ 4 * c * c := by have := sq_nn c; rw [Int.mul_assoc]; omega
  have b0 : 0 ≤ 19 ^ (k - 1) * (4 * c * c) := Int.mul_nonneg p0 q0
  have cm := BCmp_sp (X * X) (19 ^ (k - 1) * (4 * c * c)) (sq_nn X) b0 (by rw [Int.natAbs_mul]; have := ln_mul X.natAbs X.natAbs; omega) (by rw [Int.natAbs_mul]; have := ln_mul (19 ^ (k - 1) : Int).natAbs (4 * c * c).natAbs; omega)
  have cv := cmp_le (sq_nn X) b0 b
  generalize cmpZ (X * X).natAbs (19 ^ (k - 1) * (4 * c * c)).natAbs = r at *
  generalize (19 : Int) ^ (k - 1) = Q at *
  clear b lp
  refine fn_sp (C := CX) [] [] tysX_ok mixed Tryz.func10 rfl (by kernel_rfl) Tryz.ntmps10 rfl rfl ?_
  repeat' ((conv => whnf); first | (refine Idx.mk ⟨7, by omega, by decide, ?_⟩) | refine Ja ?_ | refine Jb ?_ | refine Jc ?_ | refine Jd ?_ | refine Je ?_ | refine Jf ?_ | refine Jg rfl ?_ | refine Jh rfl ?_ | refine Ji ?_ | refine Jj ?_ | refine Jk rfl ?_ | refine Jl ?_ | refine Jm ?_ | refine Jn rfl ?_ | refine Jo ?_ | refine Jp ?_ | refine Jq rfl ?_ | refine Jr ?_ | refine Js ?_ | refine Jt rfl ?_ | refine Ju ?_ | refine Jv ?_ | refine Jw ?_ | refine Jx rfl ?_ | refine Jy s0 ?_ | refine Jy t ?_ | refine Jy cs ?_ | refine Jy z1 ?_ | refine Jy z2 ?_ | refine Sp.call (pw) (.cons (.refl _) (.cons (.int (by omega)) .nil)) rfl (AvLe.refl _) ?_ | refine Jy m1 ?_ | refine Jy m2 ?_ | refine Jy cm ?_)
  refine ⟨⟨_, _, rfl, rfl, ?_⟩⟩
  exact AvLe.bool (decide_eq_true cv.1)
set_option maxHeartbeats 4000000 in
theorem bnd23_bad (L K D : Int) (i : Nat) (hi : i % 10 = 8) (h : trE L K D 23 ≠ 0) : Sp CX 10 [specA L K D, int .u8 i] (bool true) := by
  have s0 := tawake_sp
  have em : (i : Int).tmod 10 = ((i % 10 : Nat) : Int) := (Int.ofNat_tmod i 10).symm
  have t := Trace_bad L K D 23 h
  obtain ⟨d, f, c⟩ := cusp_any L K D
  generalize trE L K D 23 = e at *
  refine fn_sp (C := CX) [] [] tysX_ok mixed Tryz.func10 rfl (by kernel_rfl) Tryz.ntmps10 rfl rfl ?_
  repeat' ((conv => whnf); first | (refine Idx.mk ⟨8, by omega, by decide, ?_⟩) | refine Ja ?_ | refine Jb ?_ | refine Jc ?_ | refine Jd ?_ | refine Je ?_ | refine Jf ?_ | refine Jg rfl ?_ | refine Jh rfl ?_ | refine Ji ?_ | refine Jj ?_ | refine Jk rfl ?_ | refine Jl ?_ | refine Jm ?_ | refine Jn rfl ?_ | refine Jo ?_ | refine Jp ?_ | refine Jq rfl ?_ | refine Jr ?_ | refine Js ?_ | refine Jt rfl ?_ | refine Ju ?_ | refine Jv ?_ | refine Jw ?_ | refine Jx rfl ?_ | refine Jy s0 ?_ | refine Jy t ?_ | refine Jy c ?_)
  refine ⟨⟨_, _, rfl, rfl, ?_⟩⟩
  exact AvLe.bool rfl
set_option maxHeartbeats 4000000 in
theorem bnd23_ok (N k : Nat) (D X c : Int) (i : Nat) (hi : i % 10 = 8) (h : BndOk N k D 23 X c) : Sp CX 10 [specA N k D, int .u8 i] (bool true) := by
  have s0 := tawake_sp
  have em : (i : Int).tmod 10 = ((i % 10 : Nat) : Int) := (Int.ofNat_tmod i 10).symm
  obtain ⟨t, lx, c1, c2, cs, k1, k2, b⟩ := h
  have cc := mulbz (x := c) (y := c) (X := 100000) (Y := 100000) (by omega) (by omega)
  have c4 := mulbz (x := 4 * c) (y := c) (X := 400000) (Y := 100000) (by omega) (by omega)
  have z1 := Z_sp 23 (by omega) (by omega)
  have z2 := Z_sp (4 * c * c) (by omega) (by omega)
  have pw := BPow_sp 23 (k - 1) (by decide) (by omega)
  have lp := ln_pow (a := 23) (by decide) (k - 1)
  have p0 : (0 : Int) ≤ 23 ^ (k - 1) := Int.pow_nonneg (by omega)
  have m1 := BMul_sp X X (by omega) (by omega)
  have l4 : ln (4 * c * c).natAbs ≤ 2 := ln64 (by omega) (by omega)
  have m2 := BMul_sp (23 ^ (k - 1)) (4 * c * c) (by omega) (by omega)
  have q0 : 0 ≤ 4 * c * c := by have := sq_nn c; rw [Int.mul_assoc]; omega
  have b0 : 0 ≤ 23 ^ (k - 1) * (4 * c * c) := Int.mul_nonneg p0 q0
  have cm := BCmp_sp (X * X) (23 ^ (k - 1) * (4 * c * c)) (sq_nn X) b0 (by rw [Int.natAbs_mul]; have := ln_mul X.natAbs X.natAbs; omega) (by rw [Int.natAbs_mul]; have := ln_mul (23 ^ (k - 1) : Int).natAbs (4 * c * c).natAbs; omega)
  have cv := cmp_le (sq_nn X) b0 b
  generalize cmpZ (X * X).natAbs (23 ^ (k - 1) * (4 * c * c)).natAbs = r at *
  generalize (23 : Int) ^ (k - 1) = Q at *
  clear b lp
  refine fn_sp (C := CX) [] [] tysX_ok mixed Tryz.func10 rfl (by kernel_rfl) Tryz.ntmps10 rfl rfl ?_
  repeat' ((conv => whnf); first | (refine Idx.mk ⟨8, by omega, by decide, ?_⟩) | refine Ja ?_ | refine Jb ?_ | refine Jc ?_ | refine Jd ?_ | refine Je ?_ | refine Jf ?_ | refine Jg rfl ?_ | refine Jh rfl ?_ | refine Ji ?_ | refine Jj ?_ | refine Jk rfl ?_ | refine Jl ?_ | refine Jm ?_ | refine Jn rfl ?_ | refine Jo ?_ | refine Jp ?_ | refine Jq rfl ?_ | refine Jr ?_ | refine Js ?_ | refine Jt rfl ?_ | refine Ju ?_ | refine Jv ?_ | refine Jw ?_ | refine Jx rfl ?_ | refine Jy s0 ?_ | refine Jy t ?_ | refine Jy cs ?_ | refine Jy z1 ?_ | refine Jy z2 ?_ | refine Sp.call (pw) (.cons (.refl _) (.cons (.int (by omega)) .nil)) rfl (AvLe.refl _) ?_ | refine Jy m1 ?_ | refine Jy m2 ?_ | refine Jy cm ?_)
  refine ⟨⟨_, _, rfl, rfl, ?_⟩⟩
  exact AvLe.bool (decide_eq_true cv.1)
set_option maxHeartbeats 4000000 in
theorem bnd29_bad (L K D : Int) (i : Nat) (hi : i % 10 = 9) (h : trE L K D 29 ≠ 0) : Sp CX 10 [specA L K D, int .u8 i] (bool true) := by
  have s0 := tawake_sp
  have em : (i : Int).tmod 10 = ((i % 10 : Nat) : Int) := (Int.ofNat_tmod i 10).symm
  have t := Trace_bad L K D 29 h
  obtain ⟨d, f, c⟩ := cusp_any L K D
  generalize trE L K D 29 = e at *
  refine fn_sp (C := CX) [] [] tysX_ok mixed Tryz.func10 rfl (by kernel_rfl) Tryz.ntmps10 rfl rfl ?_
  repeat' ((conv => whnf); first | (refine Idx.mk ⟨9, by omega, by decide, ?_⟩) | refine Ja ?_ | refine Jb ?_ | refine Jc ?_ | refine Jd ?_ | refine Je ?_ | refine Jf ?_ | refine Jg rfl ?_ | refine Jh rfl ?_ | refine Ji ?_ | refine Jj ?_ | refine Jk rfl ?_ | refine Jl ?_ | refine Jm ?_ | refine Jn rfl ?_ | refine Jo ?_ | refine Jp ?_ | refine Jq rfl ?_ | refine Jr ?_ | refine Js ?_ | refine Jt rfl ?_ | refine Ju ?_ | refine Jv ?_ | refine Jw ?_ | refine Jx rfl ?_ | refine Jy s0 ?_ | refine Jy t ?_ | refine Jy c ?_)
  refine ⟨⟨_, _, rfl, rfl, ?_⟩⟩
  exact AvLe.bool rfl
set_option maxHeartbeats 4000000 in
theorem bnd29_ok (N k : Nat) (D X c : Int) (i : Nat) (hi : i % 10 = 9) (h : BndOk N k D 29 X c) : Sp CX 10 [specA N k D, int .u8 i] (bool true) := by
  have s0 := tawake_sp
  have em : (i : Int).tmod 10 = ((i % 10 : Nat) : Int) := (Int.ofNat_tmod i 10).symm
  obtain ⟨t, lx, c1, c2, cs, k1, k2, b⟩ := h
  have cc := mulbz (x := c) (y := c) (X := 100000) (Y := 100000) (by omega) (by omega)
  have c4 := mulbz (x := 4 * c) (y := c) (X := 400000) (Y := 100000) (by omega) (by omega)
  have z1 := Z_sp 29 (by omega) (by omega)
  have z2 := Z_sp (4 * c * c) (by omega) (by omega)
  have pw := BPow_sp 29 (k - 1) (by decide) (by omega)
  have lp := ln_pow (a := 29) (by decide) (k - 1)
  have p0 : (0 : Int) ≤ 29 ^ (k - 1) := Int.pow_nonneg (by omega)
  have m1 := BMul_sp X X (by omega) (by omega)
  have l4 : ln (4 * c * c).natAbs ≤ 2 := ln64 (by omega) (by omega)
  have m2 := BMul_sp (29 ^ (k - 1)) (4 * c * c) (by omega) (by omega)
  have q0 : 0 ≤ 4 * c * c := by have := sq_nn c; rw [Int.mul_assoc]; omega
  have b0 : 0 ≤ 29 ^ (k - 1) * (4 * c * c) := Int.mul_nonneg p0 q0
  have cm := BCmp_sp (X * X) (29 ^ (k - 1) * (4 * c * c)) (sq_nn X) b0 (by rw [Int.natAbs_mul]; have := ln_mul X.natAbs X.natAbs; omega) (by rw [Int.natAbs_mul]; have := ln_mul (29 ^ (k - 1) : Int).natAbs (4 * c * c).natAbs; omega)
  have cv := cmp_le (sq_nn X) b0 b
  generalize cmpZ (X * X).natAbs (29 ^ (k - 1) * (4 * c * c)).natAbs = r at *
  generalize (29 : Int) ^ (k - 1) = Q at *
  clear b lp
  refine fn_sp (C := CX) [] [] tysX_ok mixed Tryz.func10 rfl (by kernel_rfl) Tryz.ntmps10 rfl rfl ?_
  repeat' ((conv => whnf); first | (refine Idx.mk ⟨9, by omega, by decide, ?_⟩) | refine Ja ?_ | refine Jb ?_ | refine Jc ?_ | refine Jd ?_ | refine Je ?_ | refine Jf ?_ | refine Jg rfl ?_ | refine Jh rfl ?_ | refine Ji ?_ | refine Jj ?_ | refine Jk rfl ?_ | refine Jl ?_ | refine Jm ?_ | refine Jn rfl ?_ | refine Jo ?_ | refine Jp ?_ | refine Jq rfl ?_ | refine Jr ?_ | refine Js ?_ | refine Jt rfl ?_ | refine Ju ?_ | refine Jv ?_ | refine Jw ?_ | refine Jx rfl ?_ | refine Jy s0 ?_ | refine Jy t ?_ | refine Jy cs ?_ | refine Jy z1 ?_ | refine Jy z2 ?_ | refine Sp.call (pw) (.cons (.refl _) (.cons (.int (by omega)) .nil)) rfl (AvLe.refl _) ?_ | refine Jy m1 ?_ | refine Jy m2 ?_ | refine Jy cm ?_)
  refine ⟨⟨_, _, rfl, rfl, ?_⟩⟩
  exact AvLe.bool (decide_eq_true cv.1)
end Go.Proofs.YtjijdabbhfefjaaGreatDoor

