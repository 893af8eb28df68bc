/- Own texts joined: RfA, RfB. -/
import Derived.Test.YthfnbpnplbbibaaDeC
import Derived.Test.YthfnbpnplbbibaaPkBnA
/- The reference in letters: small helpers, matrices, gcd, fractions. -/
namespace HP
/-- Go's remainder and the remainder -/
theorem tmod_emodP (n m : Int) (hm : 0 < m) : -m < n.tmod m ∧ n.tmod m < m ∧ n % m = if n.tmod m < 0 then n.tmod m + m else n.tmod m := by
  obtain ⟨k, rfl⟩ : ∃ k : Nat, m = k := ⟨m.toNat, by omega⟩
  have hk : 0 < k := by omega
  by_cases h0 : n < 0
  · have e : n = -((n.natAbs : Nat) : Int) := by omega
    generalize n.natAbs = a at *
    subst e
    have t1 : (-(a : Int)).tmod k = -((a % k : Nat) : Int) := by rw [Int.neg_tmod]; rfl
    have ml : a % k < k := Nat.mod_lt _ hk
    rw [t1]
    refine ⟨by omega, by omega, ?_⟩
    by_cases hz : a % k = 0
    · rw [if_neg (by omega), (dm_even hz).2, hz]; rfl
    · rw [if_pos (by omega), (dm_low hk hz).2]; omega
  · have t1 : n.tmod k = n % k := Int.tmod_eq_emod_of_nonneg (by omega)
    have e1 := Int.emod_nonneg n (show (k : Int) ≠ 0 by omega)
    have e2 := Int.emod_lt_of_pos n hm
    rw [t1, if_neg (by omega)]
    exact ⟨by omega, e2, rfl⟩
theorem gcd_tmodZ (x y : Int) : Int.gcd y (x.tmod y) = Int.gcd x y := by
  show Nat.gcd y.natAbs (x.tmod y).natAbs = Nat.gcd x.natAbs y.natAbs
  rw [Int.natAbs_tmod, Nat.gcd_comm x.natAbs, Nat.gcd_rec y.natAbs x.natAbs, Nat.gcd_comm]
end HP
namespace Go.Proofs.Ythfnbpnplbbibaa
open Go Go.RowKit Go.VG HP
theorem bmod_sp (n m : Int) (hm : 0 < m) (hb : m ≤ 4611686018427387904) (hn : I64 n) : Sp CX 19 [int .i64 n, int .i64 m] (int .i64 (n % m)) := by
  obtain ⟨n1, n2⟩ := hn
  obtain ⟨b1, b2, b3⟩ := tmod_emodP n m hm
  rw [b3]
  by_cases ht : n.tmod m < 0
  · rw [if_pos ht]
    refine fn_sp (C := CX) [] [] tysX_ok mixed Try.func19 rfl (by kernel_rfl) Try.ntmps19 rfl rfl ?_
    repeat' ((conv => whnf); first | refine Ob.g ?_ | refine WrOb.g ?_ | refine WrOb.u32 ?_ | refine WrOb.u64 ?_ | refine Cases.y ?_ | refine Cases.n ?_ | refine Idx.g rfl ?_ | refine Idx.z rfl ?_ | refine DrawOb.start ?_ | refine TryF.f ?_ | refine TryF.next rfl ?_ | refine TryF.other ?_ | refine TryA.g ?_ | refine TryA.next rfl ?_ | refine TryA.other ?_ | refine TryS.g ?_ | refine TryS.next rfl ?_ | refine TryS.other ?_ | refine TryG.g ?_ | refine TryG.next rfl ?_ | refine TryG.other ?_ | refine TryT.g ?_)
    refine ⟨⟨_, _, rfl, rfl, ?_⟩⟩
    exact AvLe.refl _
  · rw [if_neg ht]
    refine fn_sp (C := CX) [] [] tysX_ok mixed Try.func19 rfl (by kernel_rfl) Try.ntmps19 rfl rfl ?_
    repeat' ((conv => whnf); first | refine Ob.g ?_ | refine WrOb.g ?_ | refine WrOb.u32 ?_ | refine WrOb.u64 ?_ | refine Cases.y ?_ | refine Cases.n ?_ | refine Idx.g rfl ?_ | refine Idx.z rfl ?_ | refine DrawOb.start ?_ | refine TryF.f ?_ | refine TryF.next rfl ?_ | refine TryF.other ?_ | refine TryA.g ?_ | refine TryA.next rfl ?_ | refine TryA.other ?_ | refine TryS.g ?_ | refine TryS.next rfl ?_ | refine TryS.other ?_ | refine TryG.g ?_ | refine TryG.next rfl ?_ | refine TryG.other ?_ | refine TryT.g ?_)
    refine ⟨⟨_, _, rfl, rfl, ?_⟩⟩
    exact AvLe.refl _
theorem rin_sp (n : Int) : Sp CX 17 [int .i64 n] (bool (decide (InE n))) := by
  by_cases h1 : -1073741824 ≤ n
  · by_cases h2 : n ≤ 1073741824
    · rw [decide_eq_true (show InE n from ⟨h1, h2⟩)]
      refine fn_sp (C := CX) [] [] tysX_ok mixed Try.func17 rfl (by kernel_rfl) Try.ntmps17 rfl rfl ?_
      repeat' ((conv => whnf); first | refine Ob.g ?_ | refine WrOb.g ?_ | refine WrOb.u32 ?_ | refine WrOb.u64 ?_ | refine Cases.y ?_ | refine Cases.n ?_ | refine Idx.g rfl ?_ | refine Idx.z rfl ?_ | refine DrawOb.start ?_ | refine TryF.f ?_ | refine TryF.next rfl ?_ | refine TryF.other ?_ | refine TryA.g ?_ | refine TryA.next rfl ?_ | refine TryA.other ?_ | refine TryS.g ?_ | refine TryS.next rfl ?_ | refine TryS.other ?_ | refine TryG.g ?_ | refine TryG.next rfl ?_ | refine TryG.other ?_ | refine TryT.g ?_)
      refine ⟨⟨_, _, rfl, rfl, ?_⟩⟩
      exact AvLe.bool (decide_eq_true h2)
    · rw [decide_eq_false (show ¬ InE n from fun h => h2 h.2)]
      refine fn_sp (C := CX) [] [] tysX_ok mixed Try.func17 rfl (by kernel_rfl) Try.ntmps17 rfl rfl ?_
      repeat' ((conv => whnf); first | refine Ob.g ?_ | refine WrOb.g ?_ | refine WrOb.u32 ?_ | refine WrOb.u64 ?_ | refine Cases.y ?_ | refine Cases.n ?_ | refine Idx.g rfl ?_ | refine Idx.z rfl ?_ | refine DrawOb.start ?_ | refine TryF.f ?_ | refine TryF.next rfl ?_ | refine TryF.other ?_ | refine TryA.g ?_ | refine TryA.next rfl ?_ | refine TryA.other ?_ | refine TryS.g ?_ | refine TryS.next rfl ?_ | refine TryS.other ?_ | refine TryG.g ?_ | refine TryG.next rfl ?_ | refine TryG.other ?_ | refine TryT.g ?_)
      refine ⟨⟨_, _, rfl, rfl, ?_⟩⟩
      exact AvLe.bool (decide_eq_false h2)
  · rw [decide_eq_false (show ¬ InE n from fun h => h1 h.1)]
    refine fn_sp (C := CX) [] [] tysX_ok mixed Try.func17 rfl (by kernel_rfl) Try.ntmps17 rfl rfl ?_
    repeat' ((conv => whnf); first | refine Ob.g ?_ | refine WrOb.g ?_ | refine WrOb.u32 ?_ | refine WrOb.u64 ?_ | refine Cases.y ?_ | refine Cases.n ?_ | refine Idx.g rfl ?_ | refine Idx.z rfl ?_ | refine DrawOb.start ?_ | refine TryF.f ?_ | refine TryF.next rfl ?_ | refine TryF.other ?_ | refine TryA.g ?_ | refine TryA.next rfl ?_ | refine TryA.other ?_ | refine TryS.g ?_ | refine TryS.next rfl ?_ | refine TryS.other ?_ | refine TryG.g ?_ | refine TryG.next rfl ?_ | refine TryG.other ?_ | refine TryT.g ?_)
    refine ⟨⟨_, _, rfl, rfl, ?_⟩⟩
    exact AvLe.refl _
theorem rfits_sp (a b c d : Int) : Sp CX 88 [mA a b c d] (bool (decide (FitE a b c d))) := by
  have s1 := rin_sp a
  have s2 := rin_sp b
  have s3 := rin_sp c
  have s4 := rin_sp d
  by_cases h1 : InE a
  · rw [decide_eq_true h1] at s1
    by_cases h2 : InE b
    · rw [decide_eq_true h2] at s2
      by_cases h3 : InE c
      · rw [decide_eq_true h3] at s3
        by_cases h4 : InE d
        · rw [decide_eq_true h4] at s4
          rw [decide_eq_true (show FitE a b c d from ⟨h1, h2, h3, h4⟩)]
          refine fn_sp (C := CX) [] [] tysX_ok mixed Try.func88 rfl (by kernel_rfl) Try.ntmps88 rfl rfl ?_
          repeat' ((conv => whnf); first | refine Ob.g ?_ | refine WrOb.g ?_ | refine WrOb.u32 ?_ | refine WrOb.u64 ?_ | refine Cases.y ?_ | refine Cases.n ?_ | refine Idx.g rfl ?_ | refine Idx.z rfl ?_ | refine DrawOb.start ?_ | refine TryF.f ?_ | refine TryF.next rfl ?_ | refine TryF.other ?_ | refine TryA.g ?_ | refine TryA.next rfl ?_ | refine TryA.other ?_ | refine TryS.g ?_ | refine TryS.next rfl ?_ | refine TryS.other ?_ | refine TryG.g ?_ | refine TryG.next rfl ?_ | refine TryG.other ?_ | refine TryT.g ?_ | refine Sp.g (s1) ?_ | refine Sp.g (s2) ?_ | refine Sp.g (s3) ?_ | refine Sp.g (s4) ?_)
          refine ⟨⟨_, _, rfl, rfl, ?_⟩⟩
          exact AvLe.refl _
        · rw [decide_eq_false h4] at s4
          rw [decide_eq_false (show ¬ FitE a b c d from fun h => h4 h.2.2.2)]
          refine fn_sp (C := CX) [] [] tysX_ok mixed Try.func88 rfl (by kernel_rfl) Try.ntmps88 rfl rfl ?_
          repeat' ((conv => whnf); first | refine Ob.g ?_ | refine WrOb.g ?_ | refine WrOb.u32 ?_ | refine WrOb.u64 ?_ | refine Cases.y ?_ | refine Cases.n ?_ | refine Idx.g rfl ?_ | refine Idx.z rfl ?_ | refine DrawOb.start ?_ | refine TryF.f ?_ | refine TryF.next rfl ?_ | refine TryF.other ?_ | refine TryA.g ?_ | refine TryA.next rfl ?_ | refine TryA.other ?_ | refine TryS.g ?_ | refine TryS.next rfl ?_ | refine TryS.other ?_ | refine TryG.g ?_ | refine TryG.next rfl ?_ | refine TryG.other ?_ | refine TryT.g ?_ | refine Sp.g (s1) ?_ | refine Sp.g (s2) ?_ | refine Sp.g (s3) ?_ | refine Sp.g (s4) ?_)
          refine ⟨⟨_, _, rfl, rfl, ?_⟩⟩
          exact AvLe.refl _
      · rw [decide_eq_false h3] at s3
        rw [decide_eq_false (show ¬ FitE a b c d from fun h => h3 h.2.2.1)]
        refine fn_sp (C := CX) [] [] tysX_ok mixed Try.func88 rfl (by kernel_rfl) Try.ntmps88 rfl rfl ?_
        repeat' ((conv => whnf); first | refine Ob.g ?_ | refine WrOb.g ?_ | refine WrOb.u32 ?_ | refine WrOb.u64 ?_ | refine Cases.y ?_ | refine Cases.n ?_ | refine Idx.g rfl ?_ | refine Idx.z rfl ?_ | refine DrawOb.start ?_ | refine TryF.f ?_ | refine TryF.next rfl ?_ | refine TryF.other ?_ | refine TryA.g ?_ | refine TryA.next rfl ?_ | refine TryA.other ?_ | refine TryS.g ?_ | refine TryS.next rfl ?_ | refine TryS.other ?_ | refine TryG.g ?_ | refine TryG.next rfl ?_ | refine TryG.other ?_ | refine TryT.g ?_ | refine Sp.g (s1) ?_ | refine Sp.g (s2) ?_ | refine Sp.g (s3) ?_ | refine Sp.g (s4) ?_)
        refine ⟨⟨_, _, rfl, rfl, ?_⟩⟩
        exact AvLe.refl _
    · rw [decide_eq_false h2] at s2
      rw [decide_eq_false (show ¬ FitE a b c d from fun h => h2 h.2.1)]
      refine fn_sp (C := CX) [] [] tysX_ok mixed Try.func88 rfl (by kernel_rfl) Try.ntmps88 rfl rfl ?_
      repeat' ((conv => whnf); first | refine Ob.g ?_ | refine WrOb.g ?_ | refine WrOb.u32 ?_ | refine WrOb.u64 ?_ | refine Cases.y ?_ | refine Cases.n ?_ | refine Idx.g rfl ?_ | refine Idx.z rfl ?_ | refine DrawOb.start ?_ | refine TryF.f ?_ | refine TryF.next rfl ?_ | refine TryF.other ?_ | refine TryA.g ?_ | refine TryA.next rfl ?_ | refine TryA.other ?_ | refine TryS.g ?_ | refine TryS.next rfl ?_ | refine TryS.other ?_ | refine TryG.g ?_ | refine TryG.next rfl ?_ | refine TryG.other ?_ | refine TryT.g ?_ | refine Sp.g (s1) ?_ | refine Sp.g (s2) ?_ | refine Sp.g (s3) ?_ | refine Sp.g (s4) ?_)
      refine ⟨⟨_, _, rfl, rfl, ?_⟩⟩
      exact AvLe.refl _
  · rw [decide_eq_false h1] at s1
    rw [decide_eq_false (show ¬ FitE a b c d from fun h => h1 h.1)]
    refine fn_sp (C := CX) [] [] tysX_ok mixed Try.func88 rfl (by kernel_rfl) Try.ntmps88 rfl rfl ?_
    repeat' ((conv => whnf); first | refine Ob.g ?_ | refine WrOb.g ?_ | refine WrOb.u32 ?_ | refine WrOb.u64 ?_ | refine Cases.y ?_ | refine Cases.n ?_ | refine Idx.g rfl ?_ | refine Idx.z rfl ?_ | refine DrawOb.start ?_ | refine TryF.f ?_ | refine TryF.next rfl ?_ | refine TryF.other ?_ | refine TryA.g ?_ | refine TryA.next rfl ?_ | refine TryA.other ?_ | refine TryS.g ?_ | refine TryS.next rfl ?_ | refine TryS.other ?_ | refine TryG.g ?_ | refine TryG.next rfl ?_ | refine TryG.other ?_ | refine TryT.g ?_ | refine Sp.g (s1) ?_ | refine Sp.g (s2) ?_ | refine Sp.g (s3) ?_ | refine Sp.g (s4) ?_)
    refine ⟨⟨_, _, rfl, rfl, ?_⟩⟩
    exact AvLe.refl _
theorem rDet_no (a b c d : Int) (h : ¬ FitE a b c d) : Sp CX 65 [mA a b c d] (.tup [.c (ix 0), .c (ix 2)]) := by
  have s := rfits_sp a b c d
  rw [decide_eq_false h] at s
  refine fn_sp (C := CX) [] [] tysX_ok mixed Try.func65 rfl (by kernel_rfl) Try.ntmps65 rfl rfl ?_
  repeat' ((conv => whnf); first | refine Ob.g ?_ | refine WrOb.g ?_ | refine WrOb.u32 ?_ | refine WrOb.u64 ?_ | refine Cases.y ?_ | refine Cases.n ?_ | refine Idx.g rfl ?_ | refine Idx.z rfl ?_ | refine DrawOb.start ?_ | refine TryF.f ?_ | refine TryF.next rfl ?_ | refine TryF.other ?_ | refine TryA.g ?_ | refine TryA.next rfl ?_ | refine TryA.other ?_ | refine TryS.g ?_ | refine TryS.next rfl ?_ | refine TryS.other ?_ | refine TryG.g ?_ | refine TryG.next rfl ?_ | refine TryG.other ?_ | refine TryT.g ?_ | refine Sp.g (s) ?_)
  refine ⟨⟨_, _, rfl, rfl, ?_⟩⟩
  exact AvLe.refl _
theorem rDet_ok (a b c d : Int) (h : FitE a b c d) : Sp CX 65 [mA a b c d] (.tup [.c (ix (a * d - b * c)), .c (ix 0)]) := by
  have s := rfits_sp a b c d
  rw [decide_eq_true h] at s
  have p1 := pbd h.1 h.2.2.2
  have p2 := pbd h.2.1 h.2.2.1
  refine fn_sp (C := CX) [] [] tysX_ok mixed Try.func65 rfl (by kernel_rfl) Try.ntmps65 rfl rfl ?_
  repeat' ((conv => whnf); first | refine Ob.g ?_ | refine WrOb.g ?_ | refine WrOb.u32 ?_ | refine WrOb.u64 ?_ | refine Cases.y ?_ | refine Cases.n ?_ | refine Idx.g rfl ?_ | refine Idx.z rfl ?_ | refine DrawOb.start ?_ | refine TryF.f ?_ | refine TryF.next rfl ?_ | refine TryF.other ?_ | refine TryA.g ?_ | refine TryA.next rfl ?_ | refine TryA.other ?_ | refine TryS.g ?_ | refine TryS.next rfl ?_ | refine TryS.other ?_ | refine TryG.g ?_ | refine TryG.next rfl ?_ | refine TryG.other ?_ | refine TryT.g ?_ | refine Sp.g (s) ?_)
  refine ⟨⟨_, _, rfl, rfl, ?_⟩⟩
  exact AvLe.refl _
theorem rCheck_sp (a b c d : Int) : Sp CX 32 [mA a b c d] (int .i64 (matE a b c d)) := by
  unfold matE
  by_cases h : FitE a b c d
  · have s := rDet_ok a b c d h
    rw [if_pos h]
    by_cases h1 : a * d - b * c = 1
    · rw [if_pos h1]
      rw [h1] at s
      refine fn_sp (C := CX) [] [] tysX_ok mixed Try.func32 rfl (by kernel_rfl) Try.ntmps32 rfl rfl ?_
      repeat' ((conv => whnf); first | refine Ob.g ?_ | refine WrOb.g ?_ | refine WrOb.u32 ?_ | refine WrOb.u64 ?_ | refine Cases.y ?_ | refine Cases.n ?_ | refine Idx.g rfl ?_ | refine Idx.z rfl ?_ | refine DrawOb.start ?_ | refine TryF.f ?_ | refine TryF.next rfl ?_ | refine TryF.other ?_ | refine TryA.g ?_ | refine TryA.next rfl ?_ | refine TryA.other ?_ | refine TryS.g ?_ | refine TryS.next rfl ?_ | refine TryS.other ?_ | refine TryG.g ?_ | refine TryG.next rfl ?_ | refine TryG.other ?_ | refine TryT.g ?_ | refine Sp.g (s) ?_)
      refine ⟨⟨_, _, rfl, rfl, ?_⟩⟩
      exact AvLe.refl _
    · rw [if_neg h1]
      generalize a * d - b * c = z at *
      refine fn_sp (C := CX) [] [] tysX_ok mixed Try.func32 rfl (by kernel_rfl) Try.ntmps32 rfl rfl ?_
      repeat' ((conv => whnf); first | refine Ob.g ?_ | refine WrOb.g ?_ | refine WrOb.u32 ?_ | refine WrOb.u64 ?_ | refine Cases.y ?_ | refine Cases.n ?_ | refine Idx.g rfl ?_ | refine Idx.z rfl ?_ | refine DrawOb.start ?_ | refine TryF.f ?_ | refine TryF.next rfl ?_ | refine TryF.other ?_ | refine TryA.g ?_ | refine TryA.next rfl ?_ | refine TryA.other ?_ | refine TryS.g ?_ | refine TryS.next rfl ?_ | refine TryS.other ?_ | refine TryG.g ?_ | refine TryG.next rfl ?_ | refine TryG.other ?_ | refine TryT.g ?_ | refine Sp.g (s) ?_)
      refine ⟨⟨_, _, rfl, rfl, ?_⟩⟩
      exact AvLe.refl _
  · have s := rDet_no a b c d h
    rw [if_neg h]
    refine fn_sp (C := CX) [] [] tysX_ok mixed Try.func32 rfl (by kernel_rfl) Try.ntmps32 rfl rfl ?_
    repeat' ((conv => whnf); first | refine Ob.g ?_ | refine WrOb.g ?_ | refine WrOb.u32 ?_ | refine WrOb.u64 ?_ | refine Cases.y ?_ | refine Cases.n ?_ | refine Idx.g rfl ?_ | refine Idx.z rfl ?_ | refine DrawOb.start ?_ | refine TryF.f ?_ | refine TryF.next rfl ?_ | refine TryF.other ?_ | refine TryA.g ?_ | refine TryA.next rfl ?_ | refine TryA.other ?_ | refine TryS.g ?_ | refine TryS.next rfl ?_ | refine TryS.other ?_ | refine TryG.g ?_ | refine TryG.next rfl ?_ | refine TryG.other ?_ | refine TryT.g ?_ | refine Sp.g (s) ?_)
    refine ⟨⟨_, _, rfl, rfl, ?_⟩⟩
    exact AvLe.refl _
theorem rsign_sp (n : Int) : Sp CX 66 [int .i64 n] (int .i64 n.sign) := by
  rcases sgn_tri n with ⟨e, h⟩ | ⟨e, h⟩ | ⟨e, h⟩
  · rw [e]
    refine fn_sp (C := CX) [] [] tysX_ok mixed Try.func66 rfl (by kernel_rfl) Try.ntmps66 rfl rfl ?_
    repeat' ((conv => whnf); first | refine Ob.g ?_ | refine WrOb.g ?_ | refine WrOb.u32 ?_ | refine WrOb.u64 ?_ | refine Cases.y ?_ | refine Cases.n ?_ | refine Idx.g rfl ?_ | refine Idx.z rfl ?_ | refine DrawOb.start ?_ | refine TryF.f ?_ | refine TryF.next rfl ?_ | refine TryF.other ?_ | refine TryA.g ?_ | refine TryA.next rfl ?_ | refine TryA.other ?_ | refine TryS.g ?_ | refine TryS.next rfl ?_ | refine TryS.other ?_ | refine TryG.g ?_ | refine TryG.next rfl ?_ | refine TryG.other ?_ | refine TryT.g ?_)
    refine ⟨⟨_, _, rfl, rfl, ?_⟩⟩
    exact AvLe.refl _
  · rw [e]
    refine fn_sp (C := CX) [] [] tysX_ok mixed Try.func66 rfl (by kernel_rfl) Try.ntmps66 rfl rfl ?_
    repeat' ((conv => whnf); first | refine Ob.g ?_ | refine WrOb.g ?_ | refine WrOb.u32 ?_ | refine WrOb.u64 ?_ | refine Cases.y ?_ | refine Cases.n ?_ | refine Idx.g rfl ?_ | refine Idx.z rfl ?_ | refine DrawOb.start ?_ | refine TryF.f ?_ | refine TryF.next rfl ?_ | refine TryF.other ?_ | refine TryA.g ?_ | refine TryA.next rfl ?_ | refine TryA.other ?_ | refine TryS.g ?_ | refine TryS.next rfl ?_ | refine TryS.other ?_ | refine TryG.g ?_ | refine TryG.next rfl ?_ | refine TryG.other ?_ | refine TryT.g ?_)
    refine ⟨⟨_, _, rfl, rfl, ?_⟩⟩
    exact AvLe.refl _
  · rw [e]
    refine fn_sp (C := CX) [] [] tysX_ok mixed Try.func66 rfl (by kernel_rfl) Try.ntmps66 rfl rfl ?_
    repeat' ((conv => whnf); first | refine Ob.g ?_ | refine WrOb.g ?_ | refine WrOb.u32 ?_ | refine WrOb.u64 ?_ | refine Cases.y ?_ | refine Cases.n ?_ | refine Idx.g rfl ?_ | refine Idx.z rfl ?_ | refine DrawOb.start ?_ | refine TryF.f ?_ | refine TryF.next rfl ?_ | refine TryF.other ?_ | refine TryA.g ?_ | refine TryA.next rfl ?_ | refine TryA.other ?_ | refine TryS.g ?_ | refine TryS.next rfl ?_ | refine TryS.other ?_ | refine TryG.g ?_ | refine TryG.next rfl ?_ | refine TryG.other ?_ | refine TryT.g ?_)
    refine ⟨⟨_, _, rfl, rfl, ?_⟩⟩
    exact AvLe.refl _
theorem lsign_sp (n : Int) : Sp CX 39 [int .i64 n] (int .i64 n.sign) := by
  rcases sgn_tri n with ⟨e, h⟩ | ⟨e, h⟩ | ⟨e, h⟩
  · rw [e]
    refine fn_sp (C := CX) [] [] tysX_ok mixed Try.func39 rfl (by kernel_rfl) Try.ntmps39 rfl rfl ?_
    repeat' ((conv => whnf); first | refine Ob.g ?_ | refine WrOb.g ?_ | refine WrOb.u32 ?_ | refine WrOb.u64 ?_ | refine Cases.y ?_ | refine Cases.n ?_ | refine Idx.g rfl ?_ | refine Idx.z rfl ?_ | refine DrawOb.start ?_ | refine TryF.f ?_ | refine TryF.next rfl ?_ | refine TryF.other ?_ | refine TryA.g ?_ | refine TryA.next rfl ?_ | refine TryA.other ?_ | refine TryS.g ?_ | refine TryS.next rfl ?_ | refine TryS.other ?_ | refine TryG.g ?_ | refine TryG.next rfl ?_ | refine TryG.other ?_ | refine TryT.g ?_)
    refine ⟨⟨_, _, rfl, rfl, ?_⟩⟩
    exact AvLe.refl _
  · rw [e]
    refine fn_sp (C := CX) [] [] tysX_ok mixed Try.func39 rfl (by kernel_rfl) Try.ntmps39 rfl rfl ?_
    repeat' ((conv => whnf); first | refine Ob.g ?_ | refine WrOb.g ?_ | refine WrOb.u32 ?_ | refine WrOb.u64 ?_ | refine Cases.y ?_ | refine Cases.n ?_ | refine Idx.g rfl ?_ | refine Idx.z rfl ?_ | refine DrawOb.start ?_ | refine TryF.f ?_ | refine TryF.next rfl ?_ | refine TryF.other ?_ | refine TryA.g ?_ | refine TryA.next rfl ?_ | refine TryA.other ?_ | refine TryS.g ?_ | refine TryS.next rfl ?_ | refine TryS.other ?_ | refine TryG.g ?_ | refine TryG.next rfl ?_ | refine TryG.other ?_ | refine TryT.g ?_)
    refine ⟨⟨_, _, rfl, rfl, ?_⟩⟩
    exact AvLe.refl _
  · rw [e]
    refine fn_sp (C := CX) [] [] tysX_ok mixed Try.func39 rfl (by kernel_rfl) Try.ntmps39 rfl rfl ?_
    repeat' ((conv => whnf); first | refine Ob.g ?_ | refine WrOb.g ?_ | refine WrOb.u32 ?_ | refine WrOb.u64 ?_ | refine Cases.y ?_ | refine Cases.n ?_ | refine Idx.g rfl ?_ | refine Idx.z rfl ?_ | refine DrawOb.start ?_ | refine TryF.f ?_ | refine TryF.next rfl ?_ | refine TryF.other ?_ | refine TryA.g ?_ | refine TryA.next rfl ?_ | refine TryA.other ?_ | refine TryS.g ?_ | refine TryS.next rfl ?_ | refine TryS.other ?_ | refine TryG.g ?_ | refine TryG.next rfl ?_ | refine TryG.other ?_ | refine TryT.g ?_)
    refine ⟨⟨_, _, rfl, rfl, ?_⟩⟩
    exact AvLe.refl _
theorem rGcd_sp (a b : Int) (ha : InE a) (hb : InE b) : Sp CX 49 [int .i64 a, int .i64 b] (int .i64 (Int.gcd a b)) := by
  obtain ⟨a1, a2⟩ := ha
  obtain ⟨b1, b2⟩ := hb
  obtain ⟨G, hG⟩ : ∃ G, G = Int.gcd a b := ⟨_, rfl⟩
  rw [← hG]
  refine fn_sp (C := CX) [] [] tysX_ok mixed Try.func49 rfl (by kernel_rfl) Try.ntmps49 rfl rfl ?_
  repeat' ((conv => whnf); first | refine Ob.g ?_ | refine WrOb.g ?_ | refine WrOb.u32 ?_ | refine WrOb.u64 ?_ | refine Cases.y ?_ | refine Cases.n ?_ | refine Idx.g rfl ?_ | refine Idx.z rfl ?_ | refine DrawOb.start ?_ | refine TryF.f ?_ | refine TryF.next rfl ?_ | refine TryF.other ?_ | refine TryA.g ?_ | refine TryA.next rfl ?_ | refine TryA.other ?_ | refine TryS.g ?_ | refine TryS.next rfl ?_ | refine TryS.other ?_ | refine TryG.g ?_ | refine TryG.next rfl ?_ | refine TryG.other ?_ | refine TryT.g ?_)
  refine ⟨⟨Int × Int, fun (x, y) => ⟨[(0, int .i64 x), (1, int .i64 y)], [], 0⟩, fun (x, y) => -1073741824 ≤ x ∧ x ≤ 1073741824 ∧ -1073741824 ≤ y ∧ y ≤ 1073741824 ∧ G = Int.gcd x y, fun (_, y) => y.natAbs, ⟨(a, b), [], ⟨a1, a2, b1, b2, hG⟩, Ent.g⟩, ?_⟩⟩
  rintro ⟨x, y⟩ ⟨x1, x2, y1, y2, e⟩
  by_cases hy : y = 0
  · subst hy
    rw [Int.gcd_zero_right] at e
    repeat' ((conv => whnf); first | refine Ob.g ?_ | refine WrOb.g ?_ | refine WrOb.u32 ?_ | refine WrOb.u64 ?_ | refine Cases.y ?_ | refine Cases.n ?_ | refine Idx.g rfl ?_ | refine Idx.z rfl ?_ | refine DrawOb.start ?_ | refine TryF.f ?_ | refine TryF.next rfl ?_ | refine TryF.other ?_ | refine TryA.g ?_ | refine TryA.next rfl ?_ | refine TryA.other ?_ | refine TryS.g ?_ | refine TryS.next rfl ?_ | refine TryS.other ?_ | refine TryG.g ?_ | refine TryG.next rfl ?_ | refine TryG.other ?_ | refine TryT.g ?_)
    refine ⟨⟨_, _, rfl, rfl, ?_⟩⟩
    exact .int (by show (if x < -x then -x else x) = _; split <;> omega)
  · have b : (x.tmod y).natAbs < y.natAbs := by
      rw [Int.natAbs_tmod]
      exact Nat.mod_lt _ (by omega)
    have e2 := gcd_tmodZ x y
    rw [← e] at e2
    repeat' ((conv => whnf); first | refine Ob.g ?_ | refine WrOb.g ?_ | refine WrOb.u32 ?_ | refine WrOb.u64 ?_ | refine Cases.y ?_ | refine Cases.n ?_ | refine Idx.g rfl ?_ | refine Idx.z rfl ?_ | refine DrawOb.start ?_ | refine TryF.f ?_ | refine TryF.next rfl ?_ | refine TryF.other ?_ | refine TryA.g ?_ | refine TryA.next rfl ?_ | refine TryA.other ?_ | refine TryS.g ?_ | refine TryS.next rfl ?_ | refine TryS.other ?_ | refine TryG.g ?_ | refine TryG.next rfl ?_ | refine TryG.other ?_ | refine TryT.g ?_)
    exact ⟨(y, x.tmod y), [], ⟨y1, y2, by omega, by omega, e2.symm⟩, b, Ent.g⟩
/-- n/d in lowest terms -/
theorem Frac_sp (n d : Int) (hd : 0 < d) (hn1 : -4611686018427387904 ≤ n) (hn2 : n ≤ 4611686018427387904) (hd2 : d ≤ 4611686018427387904) : Sp CX 44 [int .i64 n, int .i64 d] (qA (Rat.divInt n d)) := by
  obtain ⟨G, hG⟩ : ∃ G, G = Int.gcd n d := ⟨_, rfl⟩
  have G0 : 0 < G := by rw [hG]; exact Int.gcd_pos_of_ne_zero_right _ (by omega)
  obtain ⟨f1, f2⟩ := frac_pos (n := n) hd (g := (G : Int)) (by rw [hG])
  have rb := rat_bd (a := n) (b := d) (by omega)
  have z1 := Z_sp (Rat.divInt n d).num (by omega) (by omega)
  have z2 := Z_sp ((Rat.divInt n d).den : Int) (by omega) (by omega)
  refine fn_sp (C := CX) [] [] tysX_ok mixed Try.func44 rfl (by kernel_rfl) Try.ntmps44 rfl rfl ?_
  repeat' ((conv => whnf); first | refine Ob.g ?_ | refine WrOb.g ?_ | refine WrOb.u32 ?_ | refine WrOb.u64 ?_ | refine Cases.y ?_ | refine Cases.n ?_ | refine Idx.g rfl ?_ | refine Idx.z rfl ?_ | refine DrawOb.start ?_ | refine TryF.f ?_ | refine TryF.next rfl ?_ | refine TryF.other ?_ | refine TryA.g ?_ | refine TryA.next rfl ?_ | refine TryA.other ?_ | refine TryS.g ?_ | refine TryS.next rfl ?_ | refine TryS.other ?_ | refine TryG.g ?_ | refine TryG.next rfl ?_ | refine TryG.other ?_ | refine TryT.g ?_)
  refine ⟨⟨Nat × Nat, fun (x, y) => ⟨[(0, int .i64 n), (1, int .i64 d), (4, .v (.c (.loc 0 0))), (5, int .i64 x), (6, int .i64 y)], [(0, .st qZ)], 1⟩, fun (x, y) => x ≤ 4611686018427387904 ∧ y ≤ 4611686018427387904 ∧ G = Nat.gcd x y, fun (_, y) => y, ⟨(n.natAbs, d.natAbs), [], ⟨by omega, by omega, hG⟩, by
    refine ⟨?_, ?_, rfl⟩
    · refine .cons (.refl _) (.cons (.refl _) (.cons (.refl _) (.cons (.int ?_) (.cons (.int ?_) .nil))))
      · show (if n < -n then -n else n) = _
        split <;> omega
      · omega
    · exact .cons rfl (.refl _) .nil⟩, ?_⟩⟩
  rintro ⟨x, y⟩ ⟨x1, y1, e⟩
  by_cases hy : y = 0
  · subst hy
    rw [Nat.gcd_zero_right] at e
    subst e
    have i1 : InK .i64 (n.tdiv G) := by rw [f1]; show -9223372036854775808 ≤ (Rat.divInt n d).num ∧ (Rat.divInt n d).num ≤ 9223372036854775807; omega
    have i2 : InK .i64 (d.tdiv G) := by rw [f2]; show -9223372036854775808 ≤ ((Rat.divInt n d).den : Int) ∧ ((Rat.divInt n d).den : Int) ≤ 9223372036854775807; omega
    repeat' ((conv => whnf); first | (refine Ob.mk ⟨by omega, i2⟩ ?_) | (refine Ob.mk ⟨by omega, i1⟩ ?_) | refine Ob.g ?_ | refine WrOb.g ?_ | refine WrOb.u32 ?_ | refine WrOb.u64 ?_ | refine Cases.y ?_ | refine Cases.n ?_ | refine Idx.g rfl ?_ | refine Idx.z rfl ?_ | refine DrawOb.start ?_ | refine TryF.f ?_ | refine TryF.next rfl ?_ | refine TryF.other ?_ | refine TryA.g ?_ | refine TryA.next rfl ?_ | refine TryA.other ?_ | refine TryS.g ?_ | refine TryS.next rfl ?_ | refine TryS.other ?_ | refine TryG.g ?_ | refine TryG.next rfl ?_ | refine TryG.other ?_ | refine TryT.g ?_ | refine Sp.call (z1) (.cons (.int f1) .nil) rfl (AvLe.refl _) ?_ | refine Sp.call (z2) (.cons (.int f2) .nil) rfl (AvLe.refl _) ?_)
    refine ⟨⟨_, _, rfl, rfl, ?_⟩⟩
    exact AvLe.refl _
  · have er : (x : Int).tmod y = ((x % y : Nat) : Int) := (Int.ofNat_tmod x y).symm
    have ml : x % y < y := Nat.mod_lt _ (by omega)
    have eg : G = Nat.gcd y (x % y) := by rw [e, Nat.gcd_comm x y, Nat.gcd_rec y x, Nat.gcd_comm]
    clear z1 z2 f1 f2 rb
    repeat' ((conv => whnf); first | refine Ob.g ?_ | refine WrOb.g ?_ | refine WrOb.u32 ?_ | refine WrOb.u64 ?_ | refine Cases.y ?_ | refine Cases.n ?_ | refine Idx.g rfl ?_ | refine Idx.z rfl ?_ | refine DrawOb.start ?_ | refine TryF.f ?_ | refine TryF.next rfl ?_ | refine TryF.other ?_ | refine TryA.g ?_ | refine TryA.next rfl ?_ | refine TryA.other ?_ | refine TryS.g ?_ | refine TryS.next rfl ?_ | refine TryS.other ?_ | refine TryG.g ?_ | refine TryG.next rfl ?_ | refine TryG.other ?_ | refine TryT.g ?_)
    exact ⟨(y, x % y), [], ⟨y1, by omega, eg⟩, ml, by
      refine ⟨?_, ?_, rfl⟩
      · exact .cons (.refl _) (.cons (.refl _) (.cons (.refl _) (.cons (.refl _) (.cons (.int er) .nil))))
      · exact .cons rfl (.refl _) .nil⟩
end Go.Proofs.Ythfnbpnplbbibaa

/- The reference in letters: Err, Four, Sum, Phi, Small, Divisors. -/
namespace HP
theorem mulbd {x y : Int} {X Y : Nat} (hx : x.natAbs ≤ X) (hy : y.natAbs ≤ Y) : -((X * Y : Nat) : Int) ≤ x * y ∧ x * y ≤ ((X * Y : Nat) : Int) := by
  have h : (x * y).natAbs ≤ X * Y := by
    rw [Int.natAbs_mul]
    exact Nat.mul_le_mul hx hy
  omega
/-- a row with the members of a list -/
structure RowL (L : List Nat) (m : Nat) (H : Nat → Nat) : Prop where
  l : m = L.length
  z : ∀ i x, L[i]? = some x → H i = x
end HP
namespace Go.Proofs.Ythfnbpnplbbibaa
open Go Go.RowKit Go.VG HP
theorem sumE_eq (h k : Int) : sumE h k = if k < 1 ∨ ¬ InE k ∨ ¬ InE h then 2 else if Int.gcd h k = 1 then 0 else 9 := by
  unfold sumE InE
  by_cases hr : k < 1 ∨ 1073741824 < k ∨ h < -1073741824 ∨ 1073741824 < h
  · rw [if_pos hr, if_pos (by omega)]
  · rw [if_neg hr, if_neg (show ¬ (k < 1 ∨ ¬ (-1073741824 ≤ k ∧ k ≤ 1073741824) ∨ ¬ (-1073741824 ≤ h ∧ h ≤ 1073741824)) by omega)]
theorem rErr_sp (h k : Int) : Sp CX 14 [int .i64 h, int .i64 k] (int .i64 (sumE h k)) := by
  rw [sumE_eq]
  have i1 := rin_sp k
  have i2 := rin_sp h
  by_cases c1 : k < 1
  · rw [if_pos (.inl c1)]
    refine fn_sp (C := CX) [] [] tysX_ok mixed Try.func14 rfl (by kernel_rfl) Try.ntmps14 rfl rfl ?_
    repeat' ((conv => whnf); first | refine Ob.g ?_ | refine WrOb.g ?_ | refine WrOb.u32 ?_ | refine WrOb.u64 ?_ | refine Cases.y ?_ | refine Cases.n ?_ | refine Idx.g rfl ?_ | refine Idx.z rfl ?_ | refine DrawOb.start ?_ | refine TryF.f ?_ | refine TryF.next rfl ?_ | refine TryF.other ?_ | refine TryA.g ?_ | refine TryA.next rfl ?_ | refine TryA.other ?_ | refine TryS.g ?_ | refine TryS.next rfl ?_ | refine TryS.other ?_ | refine TryG.g ?_ | refine TryG.next rfl ?_ | refine TryG.other ?_ | refine TryT.g ?_)
    refine ⟨⟨_, _, rfl, rfl, ?_⟩⟩
    exact AvLe.refl _
  by_cases c2 : InE k
  · rw [decide_eq_true c2] at i1
    by_cases c3 : InE h
    · rw [decide_eq_true c3] at i2
      have cn : ¬ (k < 1 ∨ ¬ InE k ∨ ¬ InE h) := fun x => by
        rcases x with x | x | x
        · exact c1 x
        · exact x c2
        · exact x c3
      rw [if_neg cn]
      have g := rGcd_sp h k c3 c2
      by_cases c4 : Int.gcd h k = 1
      · rw [if_pos c4]
        rw [c4] at g
        refine fn_sp (C := CX) [] [] tysX_ok mixed Try.func14 rfl (by kernel_rfl) Try.ntmps14 rfl rfl ?_
        repeat' ((conv => whnf); first | refine Ob.g ?_ | refine WrOb.g ?_ | refine WrOb.u32 ?_ | refine WrOb.u64 ?_ | refine Cases.y ?_ | refine Cases.n ?_ | refine Idx.g rfl ?_ | refine Idx.z rfl ?_ | refine DrawOb.start ?_ | refine TryF.f ?_ | refine TryF.next rfl ?_ | refine TryF.other ?_ | refine TryA.g ?_ | refine TryA.next rfl ?_ | refine TryA.other ?_ | refine TryS.g ?_ | refine TryS.next rfl ?_ | refine TryS.other ?_ | refine TryG.g ?_ | refine TryG.next rfl ?_ | refine TryG.other ?_ | refine TryT.g ?_ | refine Sp.g (i1) ?_ | refine Sp.g (i2) ?_ | refine Sp.g (g) ?_)
        refine ⟨⟨_, _, rfl, rfl, ?_⟩⟩
        exact AvLe.refl _
      · rw [if_neg c4]
        generalize Int.gcd h k = w at *
        refine fn_sp (C := CX) [] [] tysX_ok mixed Try.func14 rfl (by kernel_rfl) Try.ntmps14 rfl rfl ?_
        repeat' ((conv => whnf); first | refine Ob.g ?_ | refine WrOb.g ?_ | refine WrOb.u32 ?_ | refine WrOb.u64 ?_ | refine Cases.y ?_ | refine Cases.n ?_ | refine Idx.g rfl ?_ | refine Idx.z rfl ?_ | refine DrawOb.start ?_ | refine TryF.f ?_ | refine TryF.next rfl ?_ | refine TryF.other ?_ | refine TryA.g ?_ | refine TryA.next rfl ?_ | refine TryA.other ?_ | refine TryS.g ?_ | refine TryS.next rfl ?_ | refine TryS.other ?_ | refine TryG.g ?_ | refine TryG.next rfl ?_ | refine TryG.other ?_ | refine TryT.g ?_ | refine Sp.g (i1) ?_ | refine Sp.g (i2) ?_ | refine Sp.g (g) ?_)
        refine ⟨⟨_, _, rfl, rfl, ?_⟩⟩
        exact AvLe.refl _
    · rw [decide_eq_false c3] at i2
      rw [if_pos (.inr (.inr c3))]
      refine fn_sp (C := CX) [] [] tysX_ok mixed Try.func14 rfl (by kernel_rfl) Try.ntmps14 rfl rfl ?_
      repeat' ((conv => whnf); first | refine Ob.g ?_ | refine WrOb.g ?_ | refine WrOb.u32 ?_ | refine WrOb.u64 ?_ | refine Cases.y ?_ | refine Cases.n ?_ | refine Idx.g rfl ?_ | refine Idx.z rfl ?_ | refine DrawOb.start ?_ | refine TryF.f ?_ | refine TryF.next rfl ?_ | refine TryF.other ?_ | refine TryA.g ?_ | refine TryA.next rfl ?_ | refine TryA.other ?_ | refine TryS.g ?_ | refine TryS.next rfl ?_ | refine TryS.other ?_ | refine TryG.g ?_ | refine TryG.next rfl ?_ | refine TryG.other ?_ | refine TryT.g ?_ | refine Sp.g (i1) ?_ | refine Sp.g (i2) ?_)
      refine ⟨⟨_, _, rfl, rfl, ?_⟩⟩
      exact AvLe.refl _
  · rw [decide_eq_false c2] at i1
    rw [if_pos (.inr (.inl c2))]
    refine fn_sp (C := CX) [] [] tysX_ok mixed Try.func14 rfl (by kernel_rfl) Try.ntmps14 rfl rfl ?_
    repeat' ((conv => whnf); first | refine Ob.g ?_ | refine WrOb.g ?_ | refine WrOb.u32 ?_ | refine WrOb.u64 ?_ | refine Cases.y ?_ | refine Cases.n ?_ | refine Idx.g rfl ?_ | refine Idx.z rfl ?_ | refine DrawOb.start ?_ | refine TryF.f ?_ | refine TryF.next rfl ?_ | refine TryF.other ?_ | refine TryA.g ?_ | refine TryA.next rfl ?_ | refine TryA.other ?_ | refine TryS.g ?_ | refine TryS.next rfl ?_ | refine TryS.other ?_ | refine TryG.g ?_ | refine TryG.next rfl ?_ | refine TryG.other ?_ | refine TryT.g ?_ | refine Sp.g (i1) ?_)
    refine ⟨⟨_, _, rfl, rfl, ?_⟩⟩
    exact AvLe.refl _
set_option maxHeartbeats 4000000 in
theorem rFour_sp (h : Int) (k : Nat) (hk : 0 < k) (hb : k ≤ 3000) (hh : I64 h) : Sp CX 50 [int .i64 h, int .i64 k] (int .i64 (fourP (h % k).toNat k k)) := by
  obtain ⟨H, hH⟩ : ∃ H, H = (h % k).toNat := ⟨_, rfl⟩
  have eH : h % (k : Int) = (H : Int) := by rw [hH]; exact (emod_toNat hk).symm
  have Hl : H < k := by
    have := Int.emod_lt_of_pos h (show (0 : Int) < k by omega)
    omega
  rw [← hH]
  have m1 := bmod_sp h k (by omega) (by omega) hh
  rw [eH] at m1
  refine fn_sp (C := CX) [] [] tysX_ok mixed Try.func50 rfl (by kernel_rfl) Try.ntmps50 rfl rfl ?_
  repeat' ((conv => whnf); first | refine Ob.g ?_ | refine WrOb.g ?_ | refine WrOb.u32 ?_ | refine WrOb.u64 ?_ | refine Cases.y ?_ | refine Cases.n ?_ | refine Idx.g rfl ?_ | refine Idx.z rfl ?_ | refine DrawOb.start ?_ | refine TryF.f ?_ | refine TryF.next rfl ?_ | refine TryF.other ?_ | refine TryA.g ?_ | refine TryA.next rfl ?_ | refine TryA.other ?_ | refine TryS.g ?_ | refine TryS.next rfl ?_ | refine TryS.other ?_ | refine TryG.g ?_ | refine TryG.next rfl ?_ | refine TryG.other ?_ | refine TryT.g ?_)
  refine ⟨⟨Nat, fun i => ⟨[(0, int .i64 h), (1, int .i64 k), (5, int .i64 (fourP H k i)), (6, int .i64 i)], [], 0⟩, fun i => 1 ≤ i ∧ i ≤ k, fun i => k - i, ⟨1, [], ⟨by omega, by omega⟩, Ent.g⟩, ?_⟩⟩
  rintro i ⟨i1, i2⟩
  have fb := fourP_bd (h := H) hk i i2
  have fb2 : i * (k * k) ≤ 3000 * (3000 * 3000) := Nat.mul_le_mul (by omega) (Nat.mul_le_mul hb hb)
  by_cases hi : i < k
  · obtain ⟨J, hJ⟩ : ∃ J, J = H * i % k := ⟨_, rfl⟩
    have Jl : J < k := by rw [hJ]; exact Nat.mod_lt _ hk
    have hib : H * i ≤ 3000 * 3000 := Nat.mul_le_mul (by omega) (by omega)
    have eHi : (H : Int) * i = ((H * i : Nat) : Int) := by push_cast; rfl
    have m2 := bmod_sp ((H : Int) * i) k (by omega) (by omega) ⟨by omega, by omega⟩
    have eJ : ((H : Int) * i) % k = (J : Int) := by rw [eHi, ← Int.natCast_emod, hJ]
    rw [eJ] at m2
    have pb := mulbd (x := 2 * (i : Int) - k) (y := 2 * (J : Int) - k) (X := 3000) (Y := 3000) (by omega) (by omega)
    have fs : fourP H k (i + 1) = fourP H k i + (2 * (i : Int) - k) * (2 * (J : Int) - k) := by
      show fourP H k i + (if i = 0 then 0 else _) = _
      rw [if_neg (by omega), hJ]
    clear hJ
    repeat' ((conv => whnf); first | refine Ob.g ?_ | refine WrOb.g ?_ | refine WrOb.u32 ?_ | refine WrOb.u64 ?_ | refine Cases.y ?_ | refine Cases.n ?_ | refine Idx.g rfl ?_ | refine Idx.z rfl ?_ | refine DrawOb.start ?_ | refine TryF.f ?_ | refine TryF.next rfl ?_ | refine TryF.other ?_ | refine TryA.g ?_ | refine TryA.next rfl ?_ | refine TryA.other ?_ | refine TryS.g ?_ | refine TryS.next rfl ?_ | refine TryS.other ?_ | refine TryG.g ?_ | refine TryG.next rfl ?_ | refine TryG.other ?_ | refine TryT.g ?_ | refine Sp.g (m1) ?_ | refine Sp.g (m2) ?_)
    exact ⟨i + 1, [], ⟨by omega, hi⟩, by show k - (i + 1) < k - i; omega, Ent.g⟩
  · obtain rfl : i = k := by omega
    repeat' ((conv => whnf); first | refine Ob.g ?_ | refine WrOb.g ?_ | refine WrOb.u32 ?_ | refine WrOb.u64 ?_ | refine Cases.y ?_ | refine Cases.n ?_ | refine Idx.g rfl ?_ | refine Idx.z rfl ?_ | refine DrawOb.start ?_ | refine TryF.f ?_ | refine TryF.next rfl ?_ | refine TryF.other ?_ | refine TryA.g ?_ | refine TryA.next rfl ?_ | refine TryA.other ?_ | refine TryS.g ?_ | refine TryS.next rfl ?_ | refine TryS.other ?_ | refine TryG.g ?_ | refine TryG.next rfl ?_ | refine TryG.other ?_ | refine TryT.g ?_)
    refine ⟨⟨_, _, rfl, rfl, ?_⟩⟩
    exact AvLe.refl _
theorem sumE_ok {h k : Int} (e : sumE h k = 0) : 1 ≤ k ∧ InE k ∧ InE h ∧ Int.gcd h k = 1 := by
  rw [sumE_eq] at e
  by_cases c : k < 1 ∨ ¬ InE k ∨ ¬ InE h
  · rw [if_pos c] at e; omega
  · rw [if_neg c] at e
    refine ⟨by omega, Classical.byContradiction fun x => c (.inr (.inl x)), Classical.byContradiction fun x => c (.inr (.inr x)), ?_⟩
    by_cases g : Int.gcd h k = 1
    · exact g
    · rw [if_neg g] at e; omega
theorem rSum_sp (h : Int) (k : Nat) (hE : sumE h k = 0) (hb : k ≤ 3000) : Sp CX 16 [int .i64 h, int .i64 k] (.tup [qV (sR h k), .c (ix 0)]) := by
  obtain ⟨k1, _, hh, hg⟩ := sumE_ok hE
  have hk : 0 < k := by omega
  have er := rErr_sp h k
  rw [hE] at er
  have fo := rFour_sp h k hk hb ⟨by have := hh.1; omega, by have := hh.2; omega⟩
  have e := sR_four hk (gcd_toNat hk hg)
  rw [emod_toNat hk, sR_emod] at e
  have fb := fourP_bd (h := (h % k).toNat) hk k (Nat.le_refl _)
  have fb2 : k * (k * k) ≤ 3000 * (3000 * 3000) := Nat.mul_le_mul hb (Nat.mul_le_mul hb hb)
  have kk := mulbd (x := 4 * (k : Int)) (y := k) (X := 12000) (Y := 3000) (by omega) (by omega)
  have kp : 0 < 4 * (k : Int) * k := Int.mul_pos (by omega) (by omega)
  have fr := Frac_sp (fourP (h % k).toNat k k) (4 * (k : Int) * k) kp (by omega) (by omega) (by omega)
  rw [← e] at fr
  generalize sR h k = S at *
  refine fn_sp (C := CX) [] [] tysX_ok mixed Try.func16 rfl (by kernel_rfl) Try.ntmps16 rfl rfl ?_
  repeat' ((conv => whnf); first | refine Ob.g ?_ | refine WrOb.g ?_ | refine WrOb.u32 ?_ | refine WrOb.u64 ?_ | refine Cases.y ?_ | refine Cases.n ?_ | refine Idx.g rfl ?_ | refine Idx.z rfl ?_ | refine DrawOb.start ?_ | refine TryF.f ?_ | refine TryF.next rfl ?_ | refine TryF.other ?_ | refine TryA.g ?_ | refine TryA.next rfl ?_ | refine TryA.other ?_ | refine TryS.g ?_ | refine TryS.next rfl ?_ | refine TryS.other ?_ | refine TryG.g ?_ | refine TryG.next rfl ?_ | refine TryG.other ?_ | refine TryT.g ?_ | refine Sp.g (er) ?_ | refine Sp.g (fo) ?_ | refine Sp.g (fr) ?_)
  refine ⟨⟨_, _, rfl, rfl, ?_⟩⟩
  exact AvLe.refl _
/-- entries for which the reference is asked -/
def SmlE (a c d : Int) : Prop := (-1500 ≤ c ∧ c ≤ 1500) ∧ (-100000 ≤ a ∧ a ≤ 100000) ∧ (-100000 ≤ d ∧ d ≤ 100000)
instance (a c d : Int) : Decidable (SmlE a c d) := inferInstanceAs (Decidable (_ ∧ _))
set_option maxHeartbeats 4000000 in
theorem Small_sp (a b c d : Int) : Sp CX 34 [mA a b c d] (bool (decide (SmlE a c d))) := by
  by_cases h1 : -1500 ≤ c
  · by_cases h2 : c ≤ 1500
    · by_cases h3 : -100000 ≤ a
      · by_cases h4 : a ≤ 100000
        · by_cases h5 : -100000 ≤ d
          · by_cases h6 : d ≤ 100000
            · rw [decide_eq_true (show SmlE a c d from ⟨⟨h1, h2⟩, ⟨h3, h4⟩, ⟨h5, h6⟩⟩)]
              refine fn_sp (C := CX) [] [] tysX_ok mixed Try.func34 rfl (by kernel_rfl) Try.ntmps34 rfl rfl ?_
              repeat' ((conv => whnf); first | refine Ob.g ?_ | refine WrOb.g ?_ | refine WrOb.u32 ?_ | refine WrOb.u64 ?_ | refine Cases.y ?_ | refine Cases.n ?_ | refine Idx.g rfl ?_ | refine Idx.z rfl ?_ | refine DrawOb.start ?_ | refine TryF.f ?_ | refine TryF.next rfl ?_ | refine TryF.other ?_ | refine TryA.g ?_ | refine TryA.next rfl ?_ | refine TryA.other ?_ | refine TryS.g ?_ | refine TryS.next rfl ?_ | refine TryS.other ?_ | refine TryG.g ?_ | refine TryG.next rfl ?_ | refine TryG.other ?_ | refine TryT.g ?_)
              refine ⟨⟨_, _, rfl, rfl, ?_⟩⟩
              exact AvLe.bool (decide_eq_true h6)
            · rw [decide_eq_false (show ¬ SmlE a c d from fun h => h6 h.2.2.2)]
              refine fn_sp (C := CX) [] [] tysX_ok mixed Try.func34 rfl (by kernel_rfl) Try.ntmps34 rfl rfl ?_
              repeat' ((conv => whnf); first | refine Ob.g ?_ | refine WrOb.g ?_ | refine WrOb.u32 ?_ | refine WrOb.u64 ?_ | refine Cases.y ?_ | refine Cases.n ?_ | refine Idx.g rfl ?_ | refine Idx.z rfl ?_ | refine DrawOb.start ?_ | refine TryF.f ?_ | refine TryF.next rfl ?_ | refine TryF.other ?_ | refine TryA.g ?_ | refine TryA.next rfl ?_ | refine TryA.other ?_ | refine TryS.g ?_ | refine TryS.next rfl ?_ | refine TryS.other ?_ | refine TryG.g ?_ | refine TryG.next rfl ?_ | refine TryG.other ?_ | refine TryT.g ?_)
              refine ⟨⟨_, _, rfl, rfl, ?_⟩⟩
              exact AvLe.bool (decide_eq_false h6)
          · rw [decide_eq_false (show ¬ SmlE a c d from fun h => h5 h.2.2.1)]
            refine fn_sp (C := CX) [] [] tysX_ok mixed Try.func34 rfl (by kernel_rfl) Try.ntmps34 rfl rfl ?_
            repeat' ((conv => whnf); first | refine Ob.g ?_ | refine WrOb.g ?_ | refine WrOb.u32 ?_ | refine WrOb.u64 ?_ | refine Cases.y ?_ | refine Cases.n ?_ | refine Idx.g rfl ?_ | refine Idx.z rfl ?_ | refine DrawOb.start ?_ | refine TryF.f ?_ | refine TryF.next rfl ?_ | refine TryF.other ?_ | refine TryA.g ?_ | refine TryA.next rfl ?_ | refine TryA.other ?_ | refine TryS.g ?_ | refine TryS.next rfl ?_ | refine TryS.other ?_ | refine TryG.g ?_ | refine TryG.next rfl ?_ | refine TryG.other ?_ | refine TryT.g ?_)
            refine ⟨⟨_, _, rfl, rfl, ?_⟩⟩
            exact AvLe.refl _
        · rw [decide_eq_false (show ¬ SmlE a c d from fun h => h4 h.2.1.2)]
          refine fn_sp (C := CX) [] [] tysX_ok mixed Try.func34 rfl (by kernel_rfl) Try.ntmps34 rfl rfl ?_
          repeat' ((conv => whnf); first | refine Ob.g ?_ | refine WrOb.g ?_ | refine WrOb.u32 ?_ | refine WrOb.u64 ?_ | refine Cases.y ?_ | refine Cases.n ?_ | refine Idx.g rfl ?_ | refine Idx.z rfl ?_ | refine DrawOb.start ?_ | refine TryF.f ?_ | refine TryF.next rfl ?_ | refine TryF.other ?_ | refine TryA.g ?_ | refine TryA.next rfl ?_ | refine TryA.other ?_ | refine TryS.g ?_ | refine TryS.next rfl ?_ | refine TryS.other ?_ | refine TryG.g ?_ | refine TryG.next rfl ?_ | refine TryG.other ?_ | refine TryT.g ?_)
          refine ⟨⟨_, _, rfl, rfl, ?_⟩⟩
          exact AvLe.refl _
      · rw [decide_eq_false (show ¬ SmlE a c d from fun h => h3 h.2.1.1)]
        refine fn_sp (C := CX) [] [] tysX_ok mixed Try.func34 rfl (by kernel_rfl) Try.ntmps34 rfl rfl ?_
        repeat' ((conv => whnf); first | refine Ob.g ?_ | refine WrOb.g ?_ | refine WrOb.u32 ?_ | refine WrOb.u64 ?_ | refine Cases.y ?_ | refine Cases.n ?_ | refine Idx.g rfl ?_ | refine Idx.z rfl ?_ | refine DrawOb.start ?_ | refine TryF.f ?_ | refine TryF.next rfl ?_ | refine TryF.other ?_ | refine TryA.g ?_ | refine TryA.next rfl ?_ | refine TryA.other ?_ | refine TryS.g ?_ | refine TryS.next rfl ?_ | refine TryS.other ?_ | refine TryG.g ?_ | refine TryG.next rfl ?_ | refine TryG.other ?_ | refine TryT.g ?_)
        refine ⟨⟨_, _, rfl, rfl, ?_⟩⟩
        exact AvLe.refl _
    · rw [decide_eq_false (show ¬ SmlE a c d from fun h => h2 h.1.2)]
      refine fn_sp (C := CX) [] [] tysX_ok mixed Try.func34 rfl (by kernel_rfl) Try.ntmps34 rfl rfl ?_
      repeat' ((conv => whnf); first | refine Ob.g ?_ | refine WrOb.g ?_ | refine WrOb.u32 ?_ | refine WrOb.u64 ?_ | refine Cases.y ?_ | refine Cases.n ?_ | refine Idx.g rfl ?_ | refine Idx.z rfl ?_ | refine DrawOb.start ?_ | refine TryF.f ?_ | refine TryF.next rfl ?_ | refine TryF.other ?_ | refine TryA.g ?_ | refine TryA.next rfl ?_ | refine TryA.other ?_ | refine TryS.g ?_ | refine TryS.next rfl ?_ | refine TryS.other ?_ | refine TryG.g ?_ | refine TryG.next rfl ?_ | refine TryG.other ?_ | refine TryT.g ?_)
      refine ⟨⟨_, _, rfl, rfl, ?_⟩⟩
      exact AvLe.refl _
  · rw [decide_eq_false (show ¬ SmlE a c d from fun h => h1 h.1.1)]
    refine fn_sp (C := CX) [] [] tysX_ok mixed Try.func34 rfl (by kernel_rfl) Try.ntmps34 rfl rfl ?_
    repeat' ((conv => whnf); first | refine Ob.g ?_ | refine WrOb.g ?_ | refine WrOb.u32 ?_ | refine WrOb.u64 ?_ | refine Cases.y ?_ | refine Cases.n ?_ | refine Idx.g rfl ?_ | refine Idx.z rfl ?_ | refine DrawOb.start ?_ | refine TryF.f ?_ | refine TryF.next rfl ?_ | refine TryF.other ?_ | refine TryA.g ?_ | refine TryA.next rfl ?_ | refine TryA.other ?_ | refine TryS.g ?_ | refine TryS.next rfl ?_ | refine TryS.other ?_ | refine TryG.g ?_ | refine TryG.next rfl ?_ | refine TryG.other ?_ | refine TryT.g ?_)
    refine ⟨⟨_, _, rfl, rfl, ?_⟩⟩
    exact AvLe.refl _
set_option maxHeartbeats 4000000 in
theorem rPhi_sp (a b c d : Int) (hE : matE a b c d = 0) (hs : SmlE a c d) : Sp CX 35 [mA a b c d] (.tup [zV (rad ⟨a, b, c, d⟩), .c (ix 0)]) := by
  have s := rCheck_sp a b c d
  rw [hE] at s
  obtain ⟨hf, hd⟩ := mat_ok hE
  have one : (Mx.mk a b c d).One := hd
  have p := pbd hf.2.1 hf.2.2.2
  obtain ⟨⟨a1, a2⟩, _, ⟨c1, c2⟩, ⟨d1, d2⟩⟩ := hf
  obtain ⟨⟨c3, c4⟩, ⟨a3, a4⟩, ⟨d3, d4⟩⟩ := hs
  by_cases hc : c = 0
  · have o := Z_sp (b * d) (by omega) (by omega)
    rw [rad_zero (x := ⟨a, b, c, d⟩) hc]
    refine fn_sp (C := CX) [] [] tysX_ok mixed Try.func35 rfl (by kernel_rfl) Try.ntmps35 rfl rfl ?_
    repeat' ((conv => whnf); first | refine Ob.g ?_ | refine WrOb.g ?_ | refine WrOb.u32 ?_ | refine WrOb.u64 ?_ | refine Cases.y ?_ | refine Cases.n ?_ | refine Idx.g rfl ?_ | refine Idx.z rfl ?_ | refine DrawOb.start ?_ | refine TryF.f ?_ | refine TryF.next rfl ?_ | refine TryF.other ?_ | refine TryA.g ?_ | refine TryA.next rfl ?_ | refine TryA.other ?_ | refine TryS.g ?_ | refine TryS.next rfl ?_ | refine TryS.other ?_ | refine TryG.g ?_ | refine TryG.next rfl ?_ | refine TryG.other ?_ | refine TryT.g ?_ | refine Sp.g (s) ?_ | refine Sp.g (o) ?_)
    refine ⟨⟨_, _, rfl, rfl, ?_⟩⟩
    exact AvLe.refl _
  · obtain ⟨k, hk⟩ : ∃ k, k = c.natAbs := ⟨_, rfl⟩
    have k0 : 0 < k := by omega
    have fo := rFour_sp d k k0 (by omega) ⟨by omega, by omega⟩
    have sg := rsign_sp c
    have ph : (a + d) * (c.natAbs : Int) - 3 * fourP (d % (c.natAbs : Int)).toNat c.natAbs c.natAbs = c * c * (c.sign * rad ⟨a, b, c, d⟩) := phi_four (m := ⟨a, b, c, d⟩) one hc
    rw [← hk] at ph
    have rb : (rad ⟨a, b, c, d⟩).natAbs ≤ (a + d).natAbs + 12 * (c.natAbs * c.natAbs) := rad_bd (m := ⟨a, b, c, d⟩) one hc
    rw [← hk] at rb
    have kk : k * k ≤ 1500 * 1500 := Nat.mul_le_mul (by omega) (by omega)
    have kk2 : (k : Int) * k = ((k * k : Nat) : Int) := by push_cast; rfl
    have k2 : 0 < k * k := Nat.mul_pos k0 k0
    have cc : c * c = (k : Int) * k := by
      rcases (show (k : Int) = c ∨ (k : Int) = -c by omega) with e | e
      · rw [e]
      · rw [e, Int.neg_mul_neg]
    have ak := mulbd (x := a + d) (y := k) (X := 200000) (Y := 1500) (by omega) (by omega)
    have fb := fourP_bd (h := (d % k).toNat) k0 k (Nat.le_refl _)
    have fb2 : k * (k * k) ≤ 1500 * (1500 * 1500) := Nat.mul_le_mul (by omega) kk
    generalize fourP (d % k).toNat k k = F at *
    generalize rad ⟨a, b, c, d⟩ = X at *
    have eq : ((a + d) * (k : Int) - 3 * F).tdiv ((k : Int) * k) = c.sign * X := by
      rw [ph, cc, Int.mul_tdiv_cancel_left _ (by omega)]
    have zx := Z_sp X (by omega) (by omega)
    have sx : -27200000 ≤ c.sign * X ∧ c.sign * X ≤ 27200000 ∧ c.sign * X * c.sign = X := by
      rcases sgn_tri c with ⟨e, _⟩ | ⟨e, h0⟩ | ⟨e, _⟩
      · rw [e]; omega
      · exact absurd h0 hc
      · rw [e]; omega
    obtain ⟨sx1, sx2, sx3⟩ := sx
    have eo : (k : Int) * k ≠ 0 ∧ InK .i64 (((a + d) * (k : Int) - 3 * F).tdiv ((k : Int) * k)) := by
      rw [eq]
      exact ⟨by omega, by show -9223372036854775808 ≤ c.sign * X ∧ c.sign * X ≤ 9223372036854775807; omega⟩
    have ew : IntKind.i64.wrap (((a + d) * (k : Int) - 3 * F).tdiv ((k : Int) * k) * c.sign) = X := by
      rw [eq, sx3]
      exact wrap_in (by show -9223372036854775808 ≤ X ∧ X ≤ 9223372036854775807; omega)
    clear ph rb one hd hE cc
    refine fn_sp (C := CX) [(6,0)] [] tysX_ok mixed Try.func35 rfl (by kernel_rfl) Try.ntmps35 rfl rfl ?_
    repeat' ((conv => whnf); first | refine Ob.g ?_ | refine WrOb.g ?_ | refine WrOb.u32 ?_ | refine WrOb.u64 ?_ | refine Cases.y ?_ | refine Cases.n ?_ | refine Idx.g rfl ?_ | refine Idx.z rfl ?_ | refine DrawOb.start ?_ | refine TryF.f ?_ | refine TryF.next rfl ?_ | refine TryF.other ?_ | refine TryA.g ?_ | refine TryA.next rfl ?_ | refine TryA.other ?_ | refine TryS.g ?_ | refine TryS.next rfl ?_ | refine TryS.other ?_ | refine TryG.g ?_ | refine TryG.next rfl ?_ | refine TryG.other ?_ | refine TryT.g ?_ | refine Sp.g (s) ?_)
    refine ⟨⟨Unit, fun _ => ⟨[(1, .v (.c (.loc 0 0))), (2, .v (.c (.loc 1 0))), (5, int .i64 k)], [(0, .st [ix a, ix b, ix c, ix d]), (1, .st iZ)], 2⟩, fun _ => True, ?_, ?_⟩⟩
    · repeat' ((conv => whnf); first | refine Ob.g ?_ | refine WrOb.g ?_ | refine WrOb.u32 ?_ | refine WrOb.u64 ?_ | refine Cases.y ?_ | refine Cases.n ?_ | refine Idx.g rfl ?_ | refine Idx.z rfl ?_ | refine DrawOb.start ?_ | refine TryF.f ?_ | refine TryF.next rfl ?_ | refine TryF.other ?_ | refine TryA.g ?_ | refine TryA.next rfl ?_ | refine TryA.other ?_ | refine TryS.g ?_ | refine TryS.next rfl ?_ | refine TryS.other ?_ | refine TryG.g ?_ | refine TryG.next rfl ?_ | refine TryG.other ?_ | refine TryT.g ?_)
      exact ⟨(), [], trivial, by
        refine ⟨?_, ?_, rfl⟩
        · refine .cons (.refl _) (.cons (.refl _) (.cons (.int ?_) .nil))
          show (if c < -c then -c else c) = _
          split <;> omega
        · exact .cons rfl (.refl _) (.cons rfl (.refl _) .nil)⟩
    · rintro ⟨⟩ -
      repeat' ((conv => whnf); first | (refine WrOb.mk ⟨_, ew, ?_⟩) | (refine Ob.mk eo ?_) | refine Ob.g ?_ | refine WrOb.g ?_ | refine WrOb.u32 ?_ | refine WrOb.u64 ?_ | refine Cases.y ?_ | refine Cases.n ?_ | refine Idx.g rfl ?_ | refine Idx.z rfl ?_ | refine DrawOb.start ?_ | refine TryF.f ?_ | refine TryF.next rfl ?_ | refine TryF.other ?_ | refine TryA.g ?_ | refine TryA.next rfl ?_ | refine TryA.other ?_ | refine TryS.g ?_ | refine TryS.next rfl ?_ | refine TryS.other ?_ | refine TryG.g ?_ | refine TryG.next rfl ?_ | refine TryG.other ?_ | refine TryT.g ?_ | refine Sp.g (fo) ?_ | refine Sp.g (sg) ?_ | refine Sp.g (zx) ?_)
      refine ⟨⟨_, _, rfl, rfl, ?_⟩⟩
      exact AvLe.refl _
end Go.Proofs.Ythfnbpnplbbibaa

