/- Own texts joined: RfA, RfB. -/
import Derived.Test.YthfnbpnplbbibaaDeC
import Derived.Test.YthfnbpnplbbibaaPkBnA
/- The reference in letters: small helpers, matrices, gcd, fractions. -/
namespace HP
/-- Go's remainder and the remainder -/
theorem tmod_emodP (n m : Int) (hm : 0 < m) : -m < n.tmod m ∧ n.tmod m < m ∧ n % m = if n.tmod m < 0 then n.tmod m + m else n.tmod m := by
  obtain ⟨k, rfl⟩ : ∃ k : Nat, m = k := ⟨m.toNat, by omega⟩
  have hk : 0 < k := by omega
  by_cases h0 : n < 0
  · have e : n = -((n.natAbs : Nat) : Int) := by omega
    generalize n.natAbs = a at *
    subst e
    have t1 : (-(a : Int)).tmod k = -((a % k : Nat) : Int) := by rw [Int.neg_tmod]; rfl
    have ml : a % k < k := Nat.mod_lt _ hk
    rw [t1]
    refine ⟨by omega, by omega, ?_⟩
    by_cases hz : a % k = 0
    · rw [if_neg (by omega), (dm_even hz).2, hz]; rfl
    · rw [if_pos (by omega), (dm_low hk hz).2]; omega
  · have t1 : n.tmod k = n % k := Int.tmod_eq_emod_of_nonneg (by omega)
    have e1 := Int.emod_nonneg n (show (k : Int) ≠ 0 by omega)
    have e2 := Int.emod_lt_of_pos n hm
    rw [t1, if_neg (by omega)]
    exact ⟨by omega, e2, rfl⟩
end HP
namespace Go.Proofs.Ythfnbpnplbbibaa
open Go Go.RowKit Go.VG HP
theorem bmod_sp (n m : Int) (hm : 0 < m) (hb : m ≤ 4611686018427387904) (hn : I64 n) : Sp CX 19 [int .i64 n, int .i64 m] (int .i64 (n % m)) := by
  obtain ⟨n1, n2⟩ := hn
  obtain ⟨b1, b2, b3⟩ := tmod_emodP n m hm
  rw [b3]
  by_cases ht : n.tmod m < 0
  · rw [if_pos ht]
    refine fn_sp (C := CX) [] [] tysX_ok mixed Try.func19 rfl (by kernel_rfl) Try.ntmps19 rfl rfl ?_
    repeat' ((conv => whnf); first | refine Ob.g ?_ | refine WrOb.g ?_ | refine WrOb.u32 ?_ | refine WrOb.u64 ?_ | refine Cases.y ?_ | refine Cases.n ?_ | refine Idx.g rfl ?_ | refine Idx.z rfl ?_ | refine DrawOb.start ?_ | refine TryF.f ?_ | refine TryF.next rfl ?_ | refine TryF.other ?_ | refine TryA.g ?_ | refine TryA.next rfl ?_ | refine TryA.other ?_ | refine TryS.g ?_ | refine TryS.next rfl ?_ | refine TryS.other ?_ | refine TryG.g ?_ | refine TryG.next rfl ?_ | refine TryG.other ?_ | refine TryT.g ?_ | refine TryT.z ?_ | refine EmpOb.mk rfl ?_)
    refine ⟨⟨_, _, rfl, rfl, ?_⟩⟩
    exact AvLe.refl _
  · rw [if_neg ht]
    refine fn_sp (C := CX) [] [] tysX_ok mixed Try.func19 rfl (by kernel_rfl) Try.ntmps19 rfl rfl ?_
    repeat' ((conv => whnf); first | refine Ob.g ?_ | refine WrOb.g ?_ | refine WrOb.u32 ?_ | refine WrOb.u64 ?_ | refine Cases.y ?_ | refine Cases.n ?_ | refine Idx.g rfl ?_ | refine Idx.z rfl ?_ | refine DrawOb.start ?_ | refine TryF.f ?_ | refine TryF.next rfl ?_ | refine TryF.other ?_ | refine TryA.g ?_ | refine TryA.next rfl ?_ | refine TryA.other ?_ | refine TryS.g ?_ | refine TryS.next rfl ?_ | refine TryS.other ?_ | refine TryG.g ?_ | refine TryG.next rfl ?_ | refine TryG.other ?_ | refine TryT.g ?_ | refine TryT.z ?_ | refine EmpOb.mk rfl ?_)
    refine ⟨⟨_, _, rfl, rfl, ?_⟩⟩
    exact AvLe.refl _
theorem rin_sp (n : Int) : Sp CX 17 [int .i64 n] (bool (decide (InE n))) := by
  by_cases h1 : -1073741824 ≤ n
  · by_cases h2 : n ≤ 1073741824
    · rw [decide_eq_true (show InE n from ⟨h1, h2⟩)]
      refine fn_sp (C := CX) [] [] tysX_ok mixed Try.func17 rfl (by kernel_rfl) Try.ntmps17 rfl rfl ?_
      repeat' ((conv => whnf); first | refine Ob.g ?_ | refine WrOb.g ?_ | refine WrOb.u32 ?_ | refine WrOb.u64 ?_ | refine Cases.y ?_ | refine Cases.n ?_ | refine Idx.g rfl ?_ | refine Idx.z rfl ?_ | refine DrawOb.start ?_ | refine TryF.f ?_ | refine TryF.next rfl ?_ | refine TryF.other ?_ | refine TryA.g ?_ | refine TryA.next rfl ?_ | refine TryA.other ?_ | refine TryS.g ?_ | refine TryS.next rfl ?_ | refine TryS.other ?_ | refine TryG.g ?_ | refine TryG.next rfl ?_ | refine TryG.other ?_ | refine TryT.g ?_ | refine TryT.z ?_ | refine EmpOb.mk rfl ?_)
      refine ⟨⟨_, _, rfl, rfl, ?_⟩⟩
      exact AvLe.bool (decide_eq_true h2)
    · rw [decide_eq_false (show ¬ InE n from fun h => h2 h.2)]
      refine fn_sp (C := CX) [] [] tysX_ok mixed Try.func17 rfl (by kernel_rfl) Try.ntmps17 rfl rfl ?_
      repeat' ((conv => whnf); first | refine Ob.g ?_ | refine WrOb.g ?_ | refine WrOb.u32 ?_ | refine WrOb.u64 ?_ | refine Cases.y ?_ | refine Cases.n ?_ | refine Idx.g rfl ?_ | refine Idx.z rfl ?_ | refine DrawOb.start ?_ | refine TryF.f ?_ | refine TryF.next rfl ?_ | refine TryF.other ?_ | refine TryA.g ?_ | refine TryA.next rfl ?_ | refine TryA.other ?_ | refine TryS.g ?_ | refine TryS.next rfl ?_ | refine TryS.other ?_ | refine TryG.g ?_ | refine TryG.next rfl ?_ | refine TryG.other ?_ | refine TryT.g ?_ | refine TryT.z ?_ | refine EmpOb.mk rfl ?_)
      refine ⟨⟨_, _, rfl, rfl, ?_⟩⟩
      exact AvLe.bool (decide_eq_false h2)
  · rw [decide_eq_false (show ¬ InE n from fun h => h1 h.1)]
    refine fn_sp (C := CX) [] [] tysX_ok mixed Try.func17 rfl (by kernel_rfl) Try.ntmps17 rfl rfl ?_
    repeat' ((conv => whnf); first | refine Ob.g ?_ | refine WrOb.g ?_ | refine WrOb.u32 ?_ | refine WrOb.u64 ?_ | refine Cases.y ?_ | refine Cases.n ?_ | refine Idx.g rfl ?_ | refine Idx.z rfl ?_ | refine DrawOb.start ?_ | refine TryF.f ?_ | refine TryF.next rfl ?_ | refine TryF.other ?_ | refine TryA.g ?_ | refine TryA.next rfl ?_ | refine TryA.other ?_ | refine TryS.g ?_ | refine TryS.next rfl ?_ | refine TryS.other ?_ | refine TryG.g ?_ | refine TryG.next rfl ?_ | refine TryG.other ?_ | refine TryT.g ?_ | refine TryT.z ?_ | refine EmpOb.mk rfl ?_)
    refine ⟨⟨_, _, rfl, rfl, ?_⟩⟩
    exact AvLe.refl _
theorem rfits_sp (a b c d : Int) : Sp CX 88 [mA a b c d] (bool (decide (FitE a b c d))) := by
  have s1 := rin_sp a
  have s2 := rin_sp b
  have s3 := rin_sp c
  have s4 := rin_sp d
  by_cases h1 : InE a
  · rw [decide_eq_true h1] at s1
    by_cases h2 : InE b
    · rw [decide_eq_true h2] at s2
      by_cases h3 : InE c
      · rw [decide_eq_true h3] at s3
        by_cases h4 : InE d
        · rw [decide_eq_true h4] at s4
          rw [decide_eq_true (show FitE a b c d from ⟨h1, h2, h3, h4⟩)]
          refine fn_sp (C := CX) [] [] tysX_ok mixed Try.func88 rfl (by kernel_rfl) Try.ntmps88 rfl rfl ?_
          repeat' ((conv => whnf); first | refine Ob.g ?_ | refine WrOb.g ?_ | refine WrOb.u32 ?_ | refine WrOb.u64 ?_ | refine Cases.y ?_ | refine Cases.n ?_ | refine Idx.g rfl ?_ | refine Idx.z rfl ?_ | refine DrawOb.start ?_ | refine TryF.f ?_ | refine TryF.next rfl ?_ | refine TryF.other ?_ | refine TryA.g ?_ | refine TryA.next rfl ?_ | refine TryA.other ?_ | refine TryS.g ?_ | refine TryS.next rfl ?_ | refine TryS.other ?_ | refine TryG.g ?_ | refine TryG.next rfl ?_ | refine TryG.other ?_ | refine TryT.g ?_ | refine TryT.z ?_ | refine EmpOb.mk rfl ?_ | refine Sp.g (s1) ?_ | refine Sp.g (s2) ?_ | refine Sp.g (s3) ?_ | refine Sp.g (s4) ?_)
          refine ⟨⟨_, _, rfl, rfl, ?_⟩⟩
          exact AvLe.refl _
        · rw [decide_eq_false h4] at s4
          rw [decide_eq_false (show ¬ FitE a b c d from fun h => h4 h.2.2.2)]
          refine fn_sp (C := CX) [] [] tysX_ok mixed Try.func88 rfl (by kernel_rfl) Try.ntmps88 rfl rfl ?_
          repeat' ((conv => whnf); first | refine Ob.g ?_ | refine WrOb.g ?_ | refine WrOb.u32 ?_ | refine WrOb.u64 ?_ | refine Cases.y ?_ | refine Cases.n ?_ | refine Idx.g rfl ?_ | refine Idx.z rfl ?_ | refine DrawOb.start ?_ | refine TryF.f ?_ | refine TryF.next rfl ?_ | refine TryF.other ?_ | refine TryA.g ?_ | refine TryA.next rfl ?_ | refine TryA.other ?_ | refine TryS.g ?_ | refine TryS.next rfl ?_ | refine TryS.other ?_ | refine TryG.g ?_ | refine TryG.next rfl ?_ | refine TryG.other ?_ | refine TryT.g ?_ | refine TryT.z ?_ | refine EmpOb.mk rfl ?_ | refine Sp.g (s1) ?_ | refine Sp.g (s2) ?_ | refine Sp.g (s3) ?_ | refine Sp.g (s4) ?_)
          refine ⟨⟨_, _, rfl, rfl, ?_⟩⟩
          exact AvLe.refl _
      · rw [decide_eq_false h3] at s3
        rw [decide_eq_false (show ¬ FitE a b c d from fun h => h3 h.2.2.1)]
        refine fn_sp (C := CX) [] [] tysX_ok mixed Try.func88 rfl (by kernel_rfl) Try.ntmps88 rfl rfl ?_
        repeat' ((conv => whnf); first | refine Ob.g ?_ | refine WrOb.g ?_ | refine WrOb.u32 ?_ | refine WrOb.u64 ?_ | refine Cases.y ?_ | refine Cases.n ?_ | refine Idx.g rfl ?_ | refine Idx.z rfl ?_ | refine DrawOb.start ?_ | refine TryF.f ?_ | refine TryF.next rfl ?_ | refine TryF.other ?_ | refine TryA.g ?_ | refine TryA.next rfl ?_ | refine TryA.other ?_ | refine TryS.g ?_ | refine TryS.next rfl ?_ | refine TryS.other ?_ | refine TryG.g ?_ | refine TryG.next rfl ?_ | refine TryG.other ?_ | refine TryT.g ?_ | refine TryT.z ?_ | refine EmpOb.mk rfl ?_ | refine Sp.g (s1) ?_ | refine Sp.g (s2) ?_ | refine Sp.g (s3) ?_ | refine Sp.g (s4) ?_)
        refine ⟨⟨_, _, rfl, rfl, ?_⟩⟩
        exact AvLe.refl _
    · rw [decide_eq_false h2] at s2
      rw [decide_eq_false (show ¬ FitE a b c d from fun h => h2 h.2.1)]
      refine fn_sp (C := CX) [] [] tysX_ok mixed Try.func88 rfl (by kernel_rfl) Try.ntmps88 rfl rfl ?_
      repeat' ((conv => whnf); first | refine Ob.g ?_ | refine WrOb.g ?_ | refine WrOb.u32 ?_ | refine WrOb.u64 ?_ | refine Cases.y ?_ | refine Cases.n ?_ | refine Idx.g rfl ?_ | refine Idx.z rfl ?_ | refine DrawOb.start ?_ | refine TryF.f ?_ | refine TryF.next rfl ?_ | refine TryF.other ?_ | refine TryA.g ?_ | refine TryA.next rfl ?_ | refine TryA.other ?_ | refine TryS.g ?_ | refine TryS.next rfl ?_ | refine TryS.other ?_ | refine TryG.g ?_ | refine TryG.next rfl ?_ | refine TryG.other ?_ | refine TryT.g ?_ | refine TryT.z ?_ | refine EmpOb.mk rfl ?_ | refine Sp.g (s1) ?_ | refine Sp.g (s2) ?_ | refine Sp.g (s3) ?_ | refine Sp.g (s4) ?_)
      refine ⟨⟨_, _, rfl, rfl, ?_⟩⟩
      exact AvLe.refl _
  · rw [decide_eq_false h1] at s1
    rw [decide_eq_false (show ¬ FitE a b c d from fun h => h1 h.1)]
    refine fn_sp (C := CX) [] [] tysX_ok mixed Try.func88 rfl (by kernel_rfl) Try.ntmps88 rfl rfl ?_
    repeat' ((conv => whnf); first | refine Ob.g ?_ | refine WrOb.g ?_ | refine WrOb.u32 ?_ | refine WrOb.u64 ?_ | refine Cases.y ?_ | refine Cases.n ?_ | refine Idx.g rfl ?_ | refine Idx.z rfl ?_ | refine DrawOb.start ?_ | refine TryF.f ?_ | refine TryF.next rfl ?_ | refine TryF.other ?_ | refine TryA.g ?_ | refine TryA.next rfl ?_ | refine TryA.other ?_ | refine TryS.g ?_ | refine TryS.next rfl ?_ | refine TryS.other ?_ | refine TryG.g ?_ | refine TryG.next rfl ?_ | refine TryG.other ?_ | refine TryT.g ?_ | refine TryT.z ?_ | refine EmpOb.mk rfl ?_ | refine Sp.g (s1) ?_ | refine Sp.g (s2) ?_ | refine Sp.g (s3) ?_ | refine Sp.g (s4) ?_)
    refine ⟨⟨_, _, rfl, rfl, ?_⟩⟩
    exact AvLe.refl _
theorem rDet_no (a b c d : Int) (h : ¬ FitE a b c d) : Sp CX 65 [mA a b c d] (.tup [.c (ix 0), .c (ix 2)]) := by
  have s := rfits_sp a b c d
  rw [decide_eq_false h] at s
  refine fn_sp (C := CX) [] [] tysX_ok mixed Try.func65 rfl (by kernel_rfl) Try.ntmps65 rfl rfl ?_
  repeat' ((conv => whnf); first | refine Ob.g ?_ | refine WrOb.g ?_ | refine WrOb.u32 ?_ | refine WrOb.u64 ?_ | refine Cases.y ?_ | refine Cases.n ?_ | refine Idx.g rfl ?_ | refine Idx.z rfl ?_ | refine DrawOb.start ?_ | refine TryF.f ?_ | refine TryF.next rfl ?_ | refine TryF.other ?_ | refine TryA.g ?_ | refine TryA.next rfl ?_ | refine TryA.other ?_ | refine TryS.g ?_ | refine TryS.next rfl ?_ | refine TryS.other ?_ | refine TryG.g ?_ | refine TryG.next rfl ?_ | refine TryG.other ?_ | refine TryT.g ?_ | refine TryT.z ?_ | refine EmpOb.mk rfl ?_ | refine Sp.g (s) ?_)
  refine ⟨⟨_, _, rfl, rfl, ?_⟩⟩
  exact AvLe.refl _
theorem rDet_ok (a b c d : Int) (h : FitE a b c d) : Sp CX 65 [mA a b c d] (.tup [.c (ix (a * d - b * c)), .c (ix 0)]) := by
  have s := rfits_sp a b c d
  rw [decide_eq_true h] at s
  have p1 := pbd h.1 h.2.2.2
  have p2 := pbd h.2.1 h.2.2.1
  refine fn_sp (C := CX) [] [] tysX_ok mixed Try.func65 rfl (by kernel_rfl) Try.ntmps65 rfl rfl ?_
  repeat' ((conv => whnf); first | refine Ob.g ?_ | refine WrOb.g ?_ | refine WrOb.u32 ?_ | refine WrOb.u64 ?_ | refine Cases.y ?_ | refine Cases.n ?_ | refine Idx.g rfl ?_ | refine Idx.z rfl ?_ | refine DrawOb.start ?_ | refine TryF.f ?_ | refine TryF.next rfl ?_ | refine TryF.other ?_ | refine TryA.g ?_ | refine TryA.next rfl ?_ | refine TryA.other ?_ | refine TryS.g ?_ | refine TryS.next rfl ?_ | refine TryS.other ?_ | refine TryG.g ?_ | refine TryG.next rfl ?_ | refine TryG.other ?_ | refine TryT.g ?_ | refine TryT.z ?_ | refine EmpOb.mk rfl ?_ | refine Sp.g (s) ?_)
  refine ⟨⟨_, _, rfl, rfl, ?_⟩⟩
  exact AvLe.refl _
theorem rCheck_sp (a b c d : Int) : Sp CX 32 [mA a b c d] (int .i64 (matE a b c d)) := by
  unfold matE
  by_cases h : FitE a b c d
  · have s := rDet_ok a b c d h
    rw [if_pos h]
    by_cases h1 : a * d - b * c = 1
    · rw [if_pos h1]
      rw [h1] at s
      refine fn_sp (C := CX) [] [] tysX_ok mixed Try.func32 rfl (by kernel_rfl) Try.ntmps32 rfl rfl ?_
      repeat' ((conv => whnf); first | refine Ob.g ?_ | refine WrOb.g ?_ | refine WrOb.u32 ?_ | refine WrOb.u64 ?_ | refine Cases.y ?_ | refine Cases.n ?_ | refine Idx.g rfl ?_ | refine Idx.z rfl ?_ | refine DrawOb.start ?_ | refine TryF.f ?_ | refine TryF.next rfl ?_ | refine TryF.other ?_ | refine TryA.g ?_ | refine TryA.next rfl ?_ | refine TryA.other ?_ | refine TryS.g ?_ | refine TryS.next rfl ?_ | refine TryS.other ?_ | refine TryG.g ?_ | refine TryG.next rfl ?_ | refine TryG.other ?_ | refine TryT.g ?_ | refine TryT.z ?_ | refine EmpOb.mk rfl ?_ | refine Sp.g (s) ?_)
      refine ⟨⟨_, _, rfl, rfl, ?_⟩⟩
      exact AvLe.refl _
    · rw [if_neg h1]
      generalize a * d - b * c = z at *
      refine fn_sp (C := CX) [] [] tysX_ok mixed Try.func32 rfl (by kernel_rfl) Try.ntmps32 rfl rfl ?_
      repeat' ((conv => whnf); first | refine Ob.g ?_ | refine WrOb.g ?_ | refine WrOb.u32 ?_ | refine WrOb.u64 ?_ | refine Cases.y ?_ | refine Cases.n ?_ | refine Idx.g rfl ?_ | refine Idx.z rfl ?_ | refine DrawOb.start ?_ | refine TryF.f ?_ | refine TryF.next rfl ?_ | refine TryF.other ?_ | refine TryA.g ?_ | refine TryA.next rfl ?_ | refine TryA.other ?_ | refine TryS.g ?_ | refine TryS.next rfl ?_ | refine TryS.other ?_ | refine TryG.g ?_ | refine TryG.next rfl ?_ | refine TryG.other ?_ | refine TryT.g ?_ | refine TryT.z ?_ | refine EmpOb.mk rfl ?_ | refine Sp.g (s) ?_)
      refine ⟨⟨_, _, rfl, rfl, ?_⟩⟩
      exact AvLe.refl _
  · have s := rDet_no a b c d h
    rw [if_neg h]
    refine fn_sp (C := CX) [] [] tysX_ok mixed Try.func32 rfl (by kernel_rfl) Try.ntmps32 rfl rfl ?_
    repeat' ((conv => whnf); first | refine Ob.g ?_ | refine WrOb.g ?_ | refine WrOb.u32 ?_ | refine WrOb.u64 ?_ | refine Cases.y ?_ | refine Cases.n ?_ | refine Idx.g rfl ?_ | refine Idx.z rfl ?_ | refine DrawOb.start ?_ | refine TryF.f ?_ | refine TryF.next rfl ?_ | refine TryF.other ?_ | refine TryA.g ?_ | refine TryA.next rfl ?_ | refine TryA.other ?_ | refine TryS.g ?_ | refine TryS.next rfl ?_ | refine TryS.other ?_ | refine TryG.g ?_ | refine TryG.next rfl ?_ | refine TryG.other ?_ | refine TryT.g ?_ | refine TryT.z ?_ | refine EmpOb.mk rfl ?_ | refine Sp.g (s) ?_)
    refine ⟨⟨_, _, rfl, rfl, ?_⟩⟩
    exact AvLe.refl _
theorem rMinus_sp (a b c d : Int) (h : FitE a b c d) : Sp CX 70 [mA a b c d] (mA (-a) (-b) (-c) (-d)) := by
  obtain ⟨⟨a1, a2⟩, ⟨b1, b2⟩, ⟨c1, c2⟩, ⟨d1, d2⟩⟩ := h
  refine fn_sp (C := CX) [] [] tysX_ok mixed Try.func70 rfl (by kernel_rfl) Try.ntmps70 rfl rfl ?_
  repeat' ((conv => whnf); first | refine Ob.g ?_ | refine WrOb.g ?_ | refine WrOb.u32 ?_ | refine WrOb.u64 ?_ | refine Cases.y ?_ | refine Cases.n ?_ | refine Idx.g rfl ?_ | refine Idx.z rfl ?_ | refine DrawOb.start ?_ | refine TryF.f ?_ | refine TryF.next rfl ?_ | refine TryF.other ?_ | refine TryA.g ?_ | refine TryA.next rfl ?_ | refine TryA.other ?_ | refine TryS.g ?_ | refine TryS.next rfl ?_ | refine TryS.other ?_ | refine TryG.g ?_ | refine TryG.next rfl ?_ | refine TryG.other ?_ | refine TryT.g ?_ | refine TryT.z ?_ | refine EmpOb.mk rfl ?_)
  refine ⟨⟨_, _, rfl, rfl, ?_⟩⟩
  exact AvLe.refl _
theorem lsign_sp (n : Int) : Sp CX 39 [int .i64 n] (int .i64 n.sign) := by
  rcases sgn_tri n with ⟨e, h⟩ | ⟨e, h⟩ | ⟨e, h⟩
  · rw [e]
    refine fn_sp (C := CX) [] [] tysX_ok mixed Try.func39 rfl (by kernel_rfl) Try.ntmps39 rfl rfl ?_
    repeat' ((conv => whnf); first | refine Ob.g ?_ | refine WrOb.g ?_ | refine WrOb.u32 ?_ | refine WrOb.u64 ?_ | refine Cases.y ?_ | refine Cases.n ?_ | refine Idx.g rfl ?_ | refine Idx.z rfl ?_ | refine DrawOb.start ?_ | refine TryF.f ?_ | refine TryF.next rfl ?_ | refine TryF.other ?_ | refine TryA.g ?_ | refine TryA.next rfl ?_ | refine TryA.other ?_ | refine TryS.g ?_ | refine TryS.next rfl ?_ | refine TryS.other ?_ | refine TryG.g ?_ | refine TryG.next rfl ?_ | refine TryG.other ?_ | refine TryT.g ?_ | refine TryT.z ?_ | refine EmpOb.mk rfl ?_)
    refine ⟨⟨_, _, rfl, rfl, ?_⟩⟩
    exact AvLe.refl _
  · rw [e]
    refine fn_sp (C := CX) [] [] tysX_ok mixed Try.func39 rfl (by kernel_rfl) Try.ntmps39 rfl rfl ?_
    repeat' ((conv => whnf); first | refine Ob.g ?_ | refine WrOb.g ?_ | refine WrOb.u32 ?_ | refine WrOb.u64 ?_ | refine Cases.y ?_ | refine Cases.n ?_ | refine Idx.g rfl ?_ | refine Idx.z rfl ?_ | refine DrawOb.start ?_ | refine TryF.f ?_ | refine TryF.next rfl ?_ | refine TryF.other ?_ | refine TryA.g ?_ | refine TryA.next rfl ?_ | refine TryA.other ?_ | refine TryS.g ?_ | refine TryS.next rfl ?_ | refine TryS.other ?_ | refine TryG.g ?_ | refine TryG.next rfl ?_ | refine TryG.other ?_ | refine TryT.g ?_ | refine TryT.z ?_ | refine EmpOb.mk rfl ?_)
    refine ⟨⟨_, _, rfl, rfl, ?_⟩⟩
    exact AvLe.refl _
  · rw [e]
    refine fn_sp (C := CX) [] [] tysX_ok mixed Try.func39 rfl (by kernel_rfl) Try.ntmps39 rfl rfl ?_
    repeat' ((conv => whnf); first | refine Ob.g ?_ | refine WrOb.g ?_ | refine WrOb.u32 ?_ | refine WrOb.u64 ?_ | refine Cases.y ?_ | refine Cases.n ?_ | refine Idx.g rfl ?_ | refine Idx.z rfl ?_ | refine DrawOb.start ?_ | refine TryF.f ?_ | refine TryF.next rfl ?_ | refine TryF.other ?_ | refine TryA.g ?_ | refine TryA.next rfl ?_ | refine TryA.other ?_ | refine TryS.g ?_ | refine TryS.next rfl ?_ | refine TryS.other ?_ | refine TryG.g ?_ | refine TryG.next rfl ?_ | refine TryG.other ?_ | refine TryT.g ?_ | refine TryT.z ?_ | refine EmpOb.mk rfl ?_)
    refine ⟨⟨_, _, rfl, rfl, ?_⟩⟩
    exact AvLe.refl _
/-- n/d in lowest terms -/
theorem Frac_sp (n d : Int) (hd : 0 < d) (hn1 : -4611686018427387904 ≤ n) (hn2 : n ≤ 4611686018427387904) (hd2 : d ≤ 4611686018427387904) : Sp CX 44 [int .i64 n, int .i64 d] (qA (Rat.divInt n d)) := by
  obtain ⟨G, hG⟩ : ∃ G, G = Int.gcd n d := ⟨_, rfl⟩
  have G0 : 0 < G := by rw [hG]; exact Int.gcd_pos_of_ne_zero_right _ (by omega)
  obtain ⟨f1, f2⟩ := frac_pos (n := n) hd (g := (G : Int)) (by rw [hG])
  have rb := rat_bd (a := n) (b := d) (by omega)
  have z1 := Z_sp (Rat.divInt n d).num (by omega) (by omega)
  have z2 := Z_sp ((Rat.divInt n d).den : Int) (by omega) (by omega)
  refine fn_sp (C := CX) [] [] tysX_ok mixed Try.func44 rfl (by kernel_rfl) Try.ntmps44 rfl rfl ?_
  repeat' ((conv => whnf); first | refine Ob.g ?_ | refine WrOb.g ?_ | refine WrOb.u32 ?_ | refine WrOb.u64 ?_ | refine Cases.y ?_ | refine Cases.n ?_ | refine Idx.g rfl ?_ | refine Idx.z rfl ?_ | refine DrawOb.start ?_ | refine TryF.f ?_ | refine TryF.next rfl ?_ | refine TryF.other ?_ | refine TryA.g ?_ | refine TryA.next rfl ?_ | refine TryA.other ?_ | refine TryS.g ?_ | refine TryS.next rfl ?_ | refine TryS.other ?_ | refine TryG.g ?_ | refine TryG.next rfl ?_ | refine TryG.other ?_ | refine TryT.g ?_ | refine TryT.z ?_ | refine EmpOb.mk rfl ?_)
  refine ⟨⟨Nat × Nat, fun (x, y) => ⟨[(0, int .i64 n), (1, int .i64 d), (4, .v (.c (.loc 0 0))), (5, int .i64 x), (6, int .i64 y)], [(0, .st qZ)], 1⟩, fun (x, y) => x ≤ 4611686018427387904 ∧ y ≤ 4611686018427387904 ∧ G = Nat.gcd x y, fun (_, y) => y, ⟨(n.natAbs, d.natAbs), [], ⟨by omega, by omega, hG⟩, by
    refine ⟨?_, ?_, rfl⟩
    · refine .cons (.refl _) (.cons (.refl _) (.cons (.refl _) (.cons (.int ?_) (.cons (.int ?_) .nil))))
      · show (if n < -n then -n else n) = _
        split <;> omega
      · omega
    · exact .cons rfl (.refl _) .nil⟩, ?_⟩⟩
  rintro ⟨x, y⟩ ⟨x1, y1, e⟩
  by_cases hy : y = 0
  · subst hy
    rw [Nat.gcd_zero_right] at e
    subst e
    have i1 : InK .i64 (n.tdiv G) := by rw [f1]; show -9223372036854775808 ≤ (Rat.divInt n d).num ∧ (Rat.divInt n d).num ≤ 9223372036854775807; omega
    have i2 : InK .i64 (d.tdiv G) := by rw [f2]; show -9223372036854775808 ≤ ((Rat.divInt n d).den : Int) ∧ ((Rat.divInt n d).den : Int) ≤ 9223372036854775807; omega
    repeat' ((conv => whnf); first | (refine Ob.mk ⟨by omega, i2⟩ ?_) | (refine Ob.mk ⟨by omega, i1⟩ ?_) | refine Ob.g ?_ | refine WrOb.g ?_ | refine WrOb.u32 ?_ | refine WrOb.u64 ?_ | refine Cases.y ?_ | refine Cases.n ?_ | refine Idx.g rfl ?_ | refine Idx.z rfl ?_ | refine DrawOb.start ?_ | refine TryF.f ?_ | refine TryF.next rfl ?_ | refine TryF.other ?_ | refine TryA.g ?_ | refine TryA.next rfl ?_ | refine TryA.other ?_ | refine TryS.g ?_ | refine TryS.next rfl ?_ | refine TryS.other ?_ | refine TryG.g ?_ | refine TryG.next rfl ?_ | refine TryG.other ?_ | refine TryT.g ?_ | refine TryT.z ?_ | refine EmpOb.mk rfl ?_ | refine Sp.call (z1) (.cons (.int f1) .nil) rfl (AvLe.refl _) ?_ | refine Sp.call (z2) (.cons (.int f2) .nil) rfl (AvLe.refl _) ?_)
    refine ⟨⟨_, _, rfl, rfl, ?_⟩⟩
    exact AvLe.refl _
  · have er : (x : Int).tmod y = ((x % y : Nat) : Int) := (Int.ofNat_tmod x y).symm
    have ml : x % y < y := Nat.mod_lt _ (by omega)
    have eg : G = Nat.gcd y (x % y) := by rw [e, Nat.gcd_comm x y, Nat.gcd_rec y x, Nat.gcd_comm]
    clear z1 z2 f1 f2 rb
    repeat' ((conv => whnf); first | refine Ob.g ?_ | refine WrOb.g ?_ | refine WrOb.u32 ?_ | refine WrOb.u64 ?_ | refine Cases.y ?_ | refine Cases.n ?_ | refine Idx.g rfl ?_ | refine Idx.z rfl ?_ | refine DrawOb.start ?_ | refine TryF.f ?_ | refine TryF.next rfl ?_ | refine TryF.other ?_ | refine TryA.g ?_ | refine TryA.next rfl ?_ | refine TryA.other ?_ | refine TryS.g ?_ | refine TryS.next rfl ?_ | refine TryS.other ?_ | refine TryG.g ?_ | refine TryG.next rfl ?_ | refine TryG.other ?_ | refine TryT.g ?_ | refine TryT.z ?_ | refine EmpOb.mk rfl ?_)
    exact ⟨(y, x % y), [], ⟨y1, by omega, eg⟩, ml, by
      refine ⟨?_, ?_, rfl⟩
      · exact .cons (.refl _) (.cons (.refl _) (.cons (.refl _) (.cons (.refl _) (.cons (.int er) .nil))))
      · exact .cons rfl (.refl _) .nil⟩
end Go.Proofs.Ythfnbpnplbbibaa

/- The reference in letters: Err, Four, Sum, Phi, Small, Divisors. -/
namespace HP
theorem mulbd {x y : Int} {X Y : Nat} (hx : x.natAbs ≤ X) (hy : y.natAbs ≤ Y) : -((X * Y : Nat) : Int) ≤ x * y ∧ x * y ≤ ((X * Y : Nat) : Int) := by
  have h : (x * y).natAbs ≤ X * Y := by
    rw [Int.natAbs_mul]
    exact Nat.mul_le_mul hx hy
  omega
/-- the divisors below d -/
def dvT (n d : Nat) : List Nat := (List.range d).filter (isDv n)
theorem dvT_one (n : Nat) : dvT n 1 = [] := by
  unfold dvT isDv
  simp
theorem dvT_yes {n d : Nat} (hd : 0 < d) (h : d ∣ n) : dvT n (d + 1) = dvT n d ++ [d] := by
  unfold dvT
  rw [List.range_succ, List.filter_append]
  have : isDv n d = true := isDv_iff.2 ⟨hd, h⟩
  simp [this]
theorem dvT_no {n d : Nat} (h : ¬ d ∣ n) : dvT n (d + 1) = dvT n d := by
  unfold dvT
  rw [List.range_succ, List.filter_append]
  have : isDv n d = false := by
    cases e : isDv n d with
    | false => rfl
    | true => exact absurd (isDv_iff.1 e).2 h
  simp [this]
/-- a row with the members of a list -/
structure RowL (L : List Nat) (m : Nat) (H : Nat → Nat) : Prop where
  l : m = L.length
  z : ∀ i x, L[i]? = some x → H i = x
theorem RowL.snoc {L : List Nat} {m d : Nat} {H : Nat → Nat} (h : RowL L m H) : RowL (L ++ [d]) (m + 1) (fun j => if j < m then H j else d) := by
  refine ⟨by rw [List.length_append, h.l]; rfl, fun i x hx => ?_⟩
  show (if i < m then H i else d) = x
  by_cases hi : i < m
  · rw [if_pos hi]
    rw [List.getElem?_append_left (by rw [← h.l]; exact hi)] at hx
    exact h.z i x hx
  · rw [if_neg hi]
    rw [List.getElem?_append_right (by rw [← h.l]; omega), ← h.l] at hx
    have : i - m = 0 := by
      rcases Nat.eq_zero_or_pos (i - m) with e | e
      · exact e
      · rw [List.getElem?_eq_none (by simp; omega)] at hx
        cases hx
    rw [this] at hx
    simpa using hx
theorem RowL.dv {n : Nat} {Z H : Nat → Nat} {len m : Nat} (hZ : DvZ n Z len) (h : RowL (dvT n (n + 1)) m H) : m = len ∧ ∀ i, i < m → H i = Z i := by
  have e : dvT n (n + 1) = dvs n := rfl
  rw [e] at h
  refine ⟨by rw [h.l, hZ.l], fun i hi => ?_⟩
  have := List.getElem?_eq_getElem (l := dvs n) (i := i) (by rw [← h.l]; exact hi)
  rw [h.z i _ this, hZ.z i _ this]
end HP
namespace Go.Proofs.Ythfnbpnplbbibaa
open Go Go.RowKit Go.VG HP
theorem sumE_eq (h k : Int) : sumE h k = if k < 1 ∨ ¬ InE k ∨ ¬ InE h then 2 else if Int.gcd h k = 1 then 0 else 9 := by
  unfold sumE InE
  by_cases hr : k < 1 ∨ 1073741824 < k ∨ h < -1073741824 ∨ 1073741824 < h
  · rw [if_pos hr, if_pos (by omega)]
  · rw [if_neg hr, if_neg (show ¬ (k < 1 ∨ ¬ (-1073741824 ≤ k ∧ k ≤ 1073741824) ∨ ¬ (-1073741824 ≤ h ∧ h ≤ 1073741824)) by omega)]
set_option maxHeartbeats 4000000 in
theorem rFour_sp (h : Int) (k : Nat) (hk : 0 < k) (hb : k ≤ 3000) (hh : I64 h) : Sp CX 50 [int .i64 h, int .i64 k] (int .i64 (fourP (h % k).toNat k k)) := by
  obtain ⟨H, hH⟩ : ∃ H, H = (h % k).toNat := ⟨_, rfl⟩
  have eH : h % (k : Int) = (H : Int) := by rw [hH]; exact (emod_toNat hk).symm
  have Hl : H < k := by
    have := Int.emod_lt_of_pos h (show (0 : Int) < k by omega)
    omega
  rw [← hH]
  have m1 := bmod_sp h k (by omega) (by omega) hh
  rw [eH] at m1
  refine fn_sp (C := CX) [] [] tysX_ok mixed Try.func50 rfl (by kernel_rfl) Try.ntmps50 rfl rfl ?_
  repeat' ((conv => whnf); first | refine Ob.g ?_ | refine WrOb.g ?_ | refine WrOb.u32 ?_ | refine WrOb.u64 ?_ | refine Cases.y ?_ | refine Cases.n ?_ | refine Idx.g rfl ?_ | refine Idx.z rfl ?_ | refine DrawOb.start ?_ | refine TryF.f ?_ | refine TryF.next rfl ?_ | refine TryF.other ?_ | refine TryA.g ?_ | refine TryA.next rfl ?_ | refine TryA.other ?_ | refine TryS.g ?_ | refine TryS.next rfl ?_ | refine TryS.other ?_ | refine TryG.g ?_ | refine TryG.next rfl ?_ | refine TryG.other ?_ | refine TryT.g ?_ | refine TryT.z ?_ | refine EmpOb.mk rfl ?_)
  refine ⟨⟨Nat, fun i => ⟨[(0, int .i64 h), (1, int .i64 k), (5, int .i64 (fourP H k i)), (6, int .i64 i)], [], 0⟩, fun i => 1 ≤ i ∧ i ≤ k, fun i => k - i, ⟨1, [], ⟨by omega, by omega⟩, Ent.g⟩, ?_⟩⟩
  rintro i ⟨i1, i2⟩
  have fb := fourP_bd (h := H) hk i i2
  have fb2 : i * (k * k) ≤ 3000 * (3000 * 3000) := Nat.mul_le_mul (by omega) (Nat.mul_le_mul hb hb)
  by_cases hi : i < k
  · obtain ⟨J, hJ⟩ : ∃ J, J = H * i % k := ⟨_, rfl⟩
    have Jl : J < k := by rw [hJ]; exact Nat.mod_lt _ hk
    have hib : H * i ≤ 3000 * 3000 := Nat.mul_le_mul (by omega) (by omega)
    have eHi : (H : Int) * i = ((H * i : Nat) : Int) := by push_cast; rfl
    have m2 := bmod_sp ((H : Int) * i) k (by omega) (by omega) ⟨by omega, by omega⟩
    have eJ : ((H : Int) * i) % k = (J : Int) := by rw [eHi, ← Int.natCast_emod, hJ]
    rw [eJ] at m2
    have pb := mulbd (x := 2 * (i : Int) - k) (y := 2 * (J : Int) - k) (X := 3000) (Y := 3000) (by omega) (by omega)
    have fs : fourP H k (i + 1) = fourP H k i + (2 * (i : Int) - k) * (2 * (J : Int) - k) := by
      show fourP H k i + (if i = 0 then 0 else _) = _
      rw [if_neg (by omega), hJ]
    clear hJ
    repeat' ((conv => whnf); first | refine Ob.g ?_ | refine WrOb.g ?_ | refine WrOb.u32 ?_ | refine WrOb.u64 ?_ | refine Cases.y ?_ | refine Cases.n ?_ | refine Idx.g rfl ?_ | refine Idx.z rfl ?_ | refine DrawOb.start ?_ | refine TryF.f ?_ | refine TryF.next rfl ?_ | refine TryF.other ?_ | refine TryA.g ?_ | refine TryA.next rfl ?_ | refine TryA.other ?_ | refine TryS.g ?_ | refine TryS.next rfl ?_ | refine TryS.other ?_ | refine TryG.g ?_ | refine TryG.next rfl ?_ | refine TryG.other ?_ | refine TryT.g ?_ | refine TryT.z ?_ | refine EmpOb.mk rfl ?_ | refine Sp.g (m1) ?_ | refine Sp.g (m2) ?_)
    exact ⟨i + 1, [], ⟨by omega, hi⟩, by show k - (i + 1) < k - i; omega, Ent.g⟩
  · obtain rfl : i = k := by omega
    repeat' ((conv => whnf); first | refine Ob.g ?_ | refine WrOb.g ?_ | refine WrOb.u32 ?_ | refine WrOb.u64 ?_ | refine Cases.y ?_ | refine Cases.n ?_ | refine Idx.g rfl ?_ | refine Idx.z rfl ?_ | refine DrawOb.start ?_ | refine TryF.f ?_ | refine TryF.next rfl ?_ | refine TryF.other ?_ | refine TryA.g ?_ | refine TryA.next rfl ?_ | refine TryA.other ?_ | refine TryS.g ?_ | refine TryS.next rfl ?_ | refine TryS.other ?_ | refine TryG.g ?_ | refine TryG.next rfl ?_ | refine TryG.other ?_ | refine TryT.g ?_ | refine TryT.z ?_ | refine EmpOb.mk rfl ?_)
    refine ⟨⟨_, _, rfl, rfl, ?_⟩⟩
    exact AvLe.refl _
theorem sumE_ok {h k : Int} (e : sumE h k = 0) : 1 ≤ k ∧ InE k ∧ InE h ∧ Int.gcd h k = 1 := by
  rw [sumE_eq] at e
  by_cases c : k < 1 ∨ ¬ InE k ∨ ¬ InE h
  · rw [if_pos c] at e; omega
  · rw [if_neg c] at e
    refine ⟨by omega, Classical.byContradiction fun x => c (.inr (.inl x)), Classical.byContradiction fun x => c (.inr (.inr x)), ?_⟩
    by_cases g : Int.gcd h k = 1
    · exact g
    · rw [if_neg g] at e; omega
/-- entries for which the reference is asked -/
def SmlE (a c d : Int) : Prop := (-1500 ≤ c ∧ c ≤ 1500) ∧ (-100000 ≤ a ∧ a ≤ 100000) ∧ (-100000 ≤ d ∧ d ≤ 100000)
instance (a c d : Int) : Decidable (SmlE a c d) := inferInstanceAs (Decidable (_ ∧ _))
set_option maxHeartbeats 4000000 in
theorem Small_sp (a b c d : Int) : Sp CX 34 [mA a b c d] (bool (decide (SmlE a c d))) := by
  by_cases h1 : -1500 ≤ c
  · by_cases h2 : c ≤ 1500
    · by_cases h3 : -100000 ≤ a
      · by_cases h4 : a ≤ 100000
        · by_cases h5 : -100000 ≤ d
          · by_cases h6 : d ≤ 100000
            · rw [decide_eq_true (show SmlE a c d from ⟨⟨h1, h2⟩, ⟨h3, h4⟩, ⟨h5, h6⟩⟩)]
              refine fn_sp (C := CX) [] [] tysX_ok mixed Try.func34 rfl (by kernel_rfl) Try.ntmps34 rfl rfl ?_
              repeat' ((conv => whnf); first | refine Ob.g ?_ | refine WrOb.g ?_ | refine WrOb.u32 ?_ | refine WrOb.u64 ?_ | refine Cases.y ?_ | refine Cases.n ?_ | refine Idx.g rfl ?_ | refine Idx.z rfl ?_ | refine DrawOb.start ?_ | refine TryF.f ?_ | refine TryF.next rfl ?_ | refine TryF.other ?_ | refine TryA.g ?_ | refine TryA.next rfl ?_ | refine TryA.other ?_ | refine TryS.g ?_ | refine TryS.next rfl ?_ | refine TryS.other ?_ | refine TryG.g ?_ | refine TryG.next rfl ?_ | refine TryG.other ?_ | refine TryT.g ?_ | refine TryT.z ?_ | refine EmpOb.mk rfl ?_)
              refine ⟨⟨_, _, rfl, rfl, ?_⟩⟩
              exact AvLe.bool (decide_eq_true h6)
            · rw [decide_eq_false (show ¬ SmlE a c d from fun h => h6 h.2.2.2)]
              refine fn_sp (C := CX) [] [] tysX_ok mixed Try.func34 rfl (by kernel_rfl) Try.ntmps34 rfl rfl ?_
              repeat' ((conv => whnf); first | refine Ob.g ?_ | refine WrOb.g ?_ | refine WrOb.u32 ?_ | refine WrOb.u64 ?_ | refine Cases.y ?_ | refine Cases.n ?_ | refine Idx.g rfl ?_ | refine Idx.z rfl ?_ | refine DrawOb.start ?_ | refine TryF.f ?_ | refine TryF.next rfl ?_ | refine TryF.other ?_ | refine TryA.g ?_ | refine TryA.next rfl ?_ | refine TryA.other ?_ | refine TryS.g ?_ | refine TryS.next rfl ?_ | refine TryS.other ?_ | refine TryG.g ?_ | refine TryG.next rfl ?_ | refine TryG.other ?_ | refine TryT.g ?_ | refine TryT.z ?_ | refine EmpOb.mk rfl ?_)
              refine ⟨⟨_, _, rfl, rfl, ?_⟩⟩
              exact AvLe.bool (decide_eq_false h6)
          · rw [decide_eq_false (show ¬ SmlE a c d from fun h => h5 h.2.2.1)]
            refine fn_sp (C := CX) [] [] tysX_ok mixed Try.func34 rfl (by kernel_rfl) Try.ntmps34 rfl rfl ?_
            repeat' ((conv => whnf); first | refine Ob.g ?_ | refine WrOb.g ?_ | refine WrOb.u32 ?_ | refine WrOb.u64 ?_ | refine Cases.y ?_ | refine Cases.n ?_ | refine Idx.g rfl ?_ | refine Idx.z rfl ?_ | refine DrawOb.start ?_ | refine TryF.f ?_ | refine TryF.next rfl ?_ | refine TryF.other ?_ | refine TryA.g ?_ | refine TryA.next rfl ?_ | refine TryA.other ?_ | refine TryS.g ?_ | refine TryS.next rfl ?_ | refine TryS.other ?_ | refine TryG.g ?_ | refine TryG.next rfl ?_ | refine TryG.other ?_ | refine TryT.g ?_ | refine TryT.z ?_ | refine EmpOb.mk rfl ?_)
            refine ⟨⟨_, _, rfl, rfl, ?_⟩⟩
            exact AvLe.refl _
        · rw [decide_eq_false (show ¬ SmlE a c d from fun h => h4 h.2.1.2)]
          refine fn_sp (C := CX) [] [] tysX_ok mixed Try.func34 rfl (by kernel_rfl) Try.ntmps34 rfl rfl ?_
          repeat' ((conv => whnf); first | refine Ob.g ?_ | refine WrOb.g ?_ | refine WrOb.u32 ?_ | refine WrOb.u64 ?_ | refine Cases.y ?_ | refine Cases.n ?_ | refine Idx.g rfl ?_ | refine Idx.z rfl ?_ | refine DrawOb.start ?_ | refine TryF.f ?_ | refine TryF.next rfl ?_ | refine TryF.other ?_ | refine TryA.g ?_ | refine TryA.next rfl ?_ | refine TryA.other ?_ | refine TryS.g ?_ | refine TryS.next rfl ?_ | refine TryS.other ?_ | refine TryG.g ?_ | refine TryG.next rfl ?_ | refine TryG.other ?_ | refine TryT.g ?_ | refine TryT.z ?_ | refine EmpOb.mk rfl ?_)
          refine ⟨⟨_, _, rfl, rfl, ?_⟩⟩
          exact AvLe.refl _
      · rw [decide_eq_false (show ¬ SmlE a c d from fun h => h3 h.2.1.1)]
        refine fn_sp (C := CX) [] [] tysX_ok mixed Try.func34 rfl (by kernel_rfl) Try.ntmps34 rfl rfl ?_
        repeat' ((conv => whnf); first | refine Ob.g ?_ | refine WrOb.g ?_ | refine WrOb.u32 ?_ | refine WrOb.u64 ?_ | refine Cases.y ?_ | refine Cases.n ?_ | refine Idx.g rfl ?_ | refine Idx.z rfl ?_ | refine DrawOb.start ?_ | refine TryF.f ?_ | refine TryF.next rfl ?_ | refine TryF.other ?_ | refine TryA.g ?_ | refine TryA.next rfl ?_ | refine TryA.other ?_ | refine TryS.g ?_ | refine TryS.next rfl ?_ | refine TryS.other ?_ | refine TryG.g ?_ | refine TryG.next rfl ?_ | refine TryG.other ?_ | refine TryT.g ?_ | refine TryT.z ?_ | refine EmpOb.mk rfl ?_)
        refine ⟨⟨_, _, rfl, rfl, ?_⟩⟩
        exact AvLe.refl _
    · rw [decide_eq_false (show ¬ SmlE a c d from fun h => h2 h.1.2)]
      refine fn_sp (C := CX) [] [] tysX_ok mixed Try.func34 rfl (by kernel_rfl) Try.ntmps34 rfl rfl ?_
      repeat' ((conv => whnf); first | refine Ob.g ?_ | refine WrOb.g ?_ | refine WrOb.u32 ?_ | refine WrOb.u64 ?_ | refine Cases.y ?_ | refine Cases.n ?_ | refine Idx.g rfl ?_ | refine Idx.z rfl ?_ | refine DrawOb.start ?_ | refine TryF.f ?_ | refine TryF.next rfl ?_ | refine TryF.other ?_ | refine TryA.g ?_ | refine TryA.next rfl ?_ | refine TryA.other ?_ | refine TryS.g ?_ | refine TryS.next rfl ?_ | refine TryS.other ?_ | refine TryG.g ?_ | refine TryG.next rfl ?_ | refine TryG.other ?_ | refine TryT.g ?_ | refine TryT.z ?_ | refine EmpOb.mk rfl ?_)
      refine ⟨⟨_, _, rfl, rfl, ?_⟩⟩
      exact AvLe.refl _
  · rw [decide_eq_false (show ¬ SmlE a c d from fun h => h1 h.1.1)]
    refine fn_sp (C := CX) [] [] tysX_ok mixed Try.func34 rfl (by kernel_rfl) Try.ntmps34 rfl rfl ?_
    repeat' ((conv => whnf); first | refine Ob.g ?_ | refine WrOb.g ?_ | refine WrOb.u32 ?_ | refine WrOb.u64 ?_ | refine Cases.y ?_ | refine Cases.n ?_ | refine Idx.g rfl ?_ | refine Idx.z rfl ?_ | refine DrawOb.start ?_ | refine TryF.f ?_ | refine TryF.next rfl ?_ | refine TryF.other ?_ | refine TryA.g ?_ | refine TryA.next rfl ?_ | refine TryA.other ?_ | refine TryS.g ?_ | refine TryS.next rfl ?_ | refine TryS.other ?_ | refine TryG.g ?_ | refine TryG.next rfl ?_ | refine TryG.other ?_ | refine TryT.g ?_ | refine TryT.z ?_ | refine EmpOb.mk rfl ?_)
    refine ⟨⟨_, _, rfl, rfl, ?_⟩⟩
    exact AvLe.refl _
set_option maxHeartbeats 4000000 in
theorem rDivs_sp (n : Nat) (hn0 : 1 ≤ n) (hn : n ≤ 120) (Z : Nat → Nat) (len : Nat) (hZ : DvZ n Z len) : Sp CX 69 [int .i64 n] (.v (.c (.sl 1 Nat (fun z _ => ix z) Z len))) := by
  refine fn_sp (C := CX) [] [0] tysX_ok mixed Try.func69 rfl (by kernel_rfl) Try.ntmps69 rfl rfl ?_
  repeat' ((conv => whnf); first | refine Ob.g ?_ | refine WrOb.g ?_ | refine WrOb.u32 ?_ | refine WrOb.u64 ?_ | refine Cases.y ?_ | refine Cases.n ?_ | refine Idx.g rfl ?_ | refine Idx.z rfl ?_ | refine DrawOb.start ?_ | refine TryF.f ?_ | refine TryF.next rfl ?_ | refine TryF.other ?_ | refine TryA.g ?_ | refine TryA.next rfl ?_ | refine TryA.other ?_ | refine TryS.g ?_ | refine TryS.next rfl ?_ | refine TryS.other ?_ | refine TryG.g ?_ | refine TryG.next rfl ?_ | refine TryG.other ?_ | refine TryT.g ?_ | refine TryT.z ?_ | refine EmpOb.mk rfl ?_)
  refine ⟨⟨Nat × Nat × (Nat → Nat), fun (d, m, H) => ⟨[(0, int .i64 n), (3, .v (.c (.row 0))), (4, int .i64 d)], [(0, .rw 1 3 false Nat (fun z _ => ix z) H m)], 1⟩, fun (d, m, H) => 1 ≤ d ∧ d ≤ n + 1 ∧ m ≤ d ∧ RowL (dvT n d) m H, fun (d, _, _) => n + 1 - d, ⟨(1, 0, fun _ => 0), [.n 3 0 1 3], ⟨by omega, by omega, by omega, ⟨by rw [dvT_one]; rfl, fun i x h => by rw [dvT_one] at h; simp at h⟩⟩, Ent.g⟩, ?_⟩⟩
  rintro ⟨d, m, H⟩ ⟨d1, d2, m1, hL⟩
  by_cases hd : d ≤ n
  · have et : (n : Int).tmod d = ((n % d : Nat) : Int) := (Int.ofNat_tmod n d).symm
    by_cases hv : d ∣ n
    · have e0 : n % d = 0 := Nat.mod_eq_zero_of_dvd hv
      have hL2 := hL.snoc (d := d)
      rw [← dvT_yes d1 hv] at hL2
      clear hL
      repeat' ((conv => whnf); first | refine Ob.g ?_ | refine WrOb.g ?_ | refine WrOb.u32 ?_ | refine WrOb.u64 ?_ | refine Cases.y ?_ | refine Cases.n ?_ | refine Idx.g rfl ?_ | refine Idx.z rfl ?_ | refine DrawOb.start ?_ | refine TryF.f ?_ | refine TryF.next rfl ?_ | refine TryF.other ?_ | refine TryA.g ?_ | refine TryA.next rfl ?_ | refine TryA.other ?_ | refine TryS.g ?_ | refine TryS.next rfl ?_ | refine TryS.other ?_ | refine TryG.g ?_ | refine TryG.next rfl ?_ | refine TryG.other ?_ | refine TryT.g ?_ | refine TryT.z ?_ | refine EmpOb.mk rfl ?_)
      refine ⟨⟨fun _ => d, fun i j hi hj => ?_, fun _ _ _ _ => rfl, ?_⟩⟩
      · obtain rfl : i = 0 := by omega
        obtain rfl : j = 0 := by omega
        exact .refl _
      repeat' ((conv => whnf); first | refine Ob.g ?_ | refine WrOb.g ?_ | refine WrOb.u32 ?_ | refine WrOb.u64 ?_ | refine Cases.y ?_ | refine Cases.n ?_ | refine Idx.g rfl ?_ | refine Idx.z rfl ?_ | refine DrawOb.start ?_ | refine TryF.f ?_ | refine TryF.next rfl ?_ | refine TryF.other ?_ | refine TryA.g ?_ | refine TryA.next rfl ?_ | refine TryA.other ?_ | refine TryS.g ?_ | refine TryS.next rfl ?_ | refine TryS.other ?_ | refine TryG.g ?_ | refine TryG.next rfl ?_ | refine TryG.other ?_ | refine TryT.g ?_ | refine TryT.z ?_ | refine EmpOb.mk rfl ?_)
      exact ⟨(d + 1, m + 1, _), [.s 0 1], ⟨by omega, by omega, by omega, hL2⟩, by show n + 1 - (d + 1) < n + 1 - d; omega, Ent.g⟩
    · have e0 : n % d ≠ 0 := fun h => hv (Nat.dvd_of_mod_eq_zero h)
      have hL2 := hL
      rw [← dvT_no hv] at hL2
      clear hL
      repeat' ((conv => whnf); first | refine Ob.g ?_ | refine WrOb.g ?_ | refine WrOb.u32 ?_ | refine WrOb.u64 ?_ | refine Cases.y ?_ | refine Cases.n ?_ | refine Idx.g rfl ?_ | refine Idx.z rfl ?_ | refine DrawOb.start ?_ | refine TryF.f ?_ | refine TryF.next rfl ?_ | refine TryF.other ?_ | refine TryA.g ?_ | refine TryA.next rfl ?_ | refine TryA.other ?_ | refine TryS.g ?_ | refine TryS.next rfl ?_ | refine TryS.other ?_ | refine TryG.g ?_ | refine TryG.next rfl ?_ | refine TryG.other ?_ | refine TryT.g ?_ | refine TryT.z ?_ | refine EmpOb.mk rfl ?_)
      exact ⟨(d + 1, m, H), [], ⟨by omega, by omega, by omega, hL2⟩, by show n + 1 - (d + 1) < n + 1 - d; omega, Ent.g⟩
  · obtain rfl : d = n + 1 := by omega
    obtain ⟨e1, e2⟩ := hL.dv hZ
    subst e1
    clear hL
    repeat' ((conv => whnf); first | refine Ob.g ?_ | refine WrOb.g ?_ | refine WrOb.u32 ?_ | refine WrOb.u64 ?_ | refine Cases.y ?_ | refine Cases.n ?_ | refine Idx.g rfl ?_ | refine Idx.z rfl ?_ | refine DrawOb.start ?_ | refine TryF.f ?_ | refine TryF.next rfl ?_ | refine TryF.other ?_ | refine TryA.g ?_ | refine TryA.next rfl ?_ | refine TryA.other ?_ | refine TryS.g ?_ | refine TryS.next rfl ?_ | refine TryS.other ?_ | refine TryG.g ?_ | refine TryG.next rfl ?_ | refine TryG.other ?_ | refine TryT.g ?_ | refine TryT.z ?_ | refine EmpOb.mk rfl ?_)
    refine ⟨⟨_, _, rfl, rfl, ?_⟩⟩
    exact .leaf (.sl fun i j hi _ => by rw [e2 i hi]; exact .refl _)
end Go.Proofs.Ythfnbpnplbbibaa

