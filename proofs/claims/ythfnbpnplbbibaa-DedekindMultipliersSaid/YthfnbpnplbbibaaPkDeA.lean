/- Own texts joined: DeA, SlA, DeB, DeP. -/
import Derived.Test.YthfnbpnplbbibaaPkRtA
import Derived.Test.YthfnbpnplbbibaaPkNumS
import Derived.Test.YthfnbpnplbbibaaPkBnA
/- Dedekind sums in letters: fraction, residue, sum. -/
namespace Go.Proofs.Ythfnbpnplbbibaa
open Go Go.RowKit Go.VG HP
/-- the leaves of a fraction -/
def qLs (q : Rat) : List Leaf := [.x (.bool (decide (q.num < 0))), dsL q.num.natAbs (ln q.num.natAbs), .x (.bool (decide ((q.den : Int) < 0))), dsL (q.den : Int).natAbs (ln (q.den : Int).natAbs)]
def qZ : List Leaf := [.x (.bool false), .x (.slice none 0 0), .x (.bool false), .x (.slice none 0 0)]
theorem ln_i {x : Int} {k : Nat} (h : x.natAbs < 2 ^ (32 * k)) : ln x.natAbs ≤ k := ln_of h
set_option maxHeartbeats 16000000 in
set_option maxRecDepth 20000 in
theorem sum_sp (h0 k0 : Nat) (hk0 : 0 < k0) (hc0 : Nat.gcd h0 k0 = 1) (bh0 : h0 ≤ 1073741824) (bk0 : k0 ≤ 1073741824) : Sp CX 47 [int .i64 h0, int .i64 k0] (qA (sR h0 k0)) := by
  obtain ⟨T, hT⟩ : ∃ T, T = sR h0 k0 := ⟨_, rfl⟩
  rw [← hT]
  have z0 := ROf_sp 0 (by omega) (by omega)
  have z1 := ROf_sp 1 (by omega) (by omega)
  refine fn_sp (C := CX) [] [] tysX_ok mixed Try.func47 rfl (by kernel_rfl) Try.ntmps47 rfl rfl ?_
  repeat' ((conv => whnf); first | refine Ob.g ?_ | refine WrOb.g ?_ | refine WrOb.u32 ?_ | refine WrOb.u64 ?_ | refine Cases.y ?_ | refine Cases.n ?_ | refine Idx.g rfl ?_ | refine Idx.z rfl ?_ | refine DrawOb.start ?_ | refine TryF.f ?_ | refine TryF.next rfl ?_ | refine TryF.other ?_ | refine TryA.g ?_ | refine TryA.next rfl ?_ | refine TryA.other ?_ | refine TryS.g ?_ | refine TryS.next rfl ?_ | refine TryS.other ?_ | refine TryG.g ?_ | refine TryG.next rfl ?_ | refine TryG.other ?_ | refine TryT.g ?_ | refine TryT.z ?_ | refine EmpOb.mk rfl ?_ | refine Sp.g (z0) ?_ | refine Sp.g (z1) ?_)
  refine ⟨⟨Nat × Nat × Rat × Int, fun (h, k, o, s) => ⟨[(0, int .i64 h), (1, int .i64 k), (4, .v (.c (.loc 0 0))), (5, .v (.c (.loc 1 0))), (6, .v (.c (.loc 2 0)))], [(0, .st qZ), (1, .st (qLs o)), (2, .st (qLs (s : Rat)))], 3⟩, fun (h, k, o, s) => 0 < k ∧ h ≤ 1073741824 ∧ k ≤ 1073741824 ∧ Nat.gcd h k = 1 ∧ (s = 1 ∨ s = -1) ∧ o + (s : Rat) * sR h k = T, fun (h, _) => h, ⟨(h0, k0, ((0 : Int) : Rat), 1), [], ⟨hk0, bh0, bk0, hc0, .inl rfl, by rw [hT]; grind⟩, Ent.g⟩, ?_⟩⟩
  rintro ⟨h, k, o, s⟩ ⟨hk, bh, bk, hc, hs, e⟩
  clear z0 z1
  by_cases hz : h = 0
  · subst hz
    have ee := sum_end hc e
    repeat' ((conv => whnf); first | refine Ob.g ?_ | refine WrOb.g ?_ | refine WrOb.u32 ?_ | refine WrOb.u64 ?_ | refine Cases.y ?_ | refine Cases.n ?_ | refine Idx.g rfl ?_ | refine Idx.z rfl ?_ | refine DrawOb.start ?_ | refine TryF.f ?_ | refine TryF.next rfl ?_ | refine TryF.other ?_ | refine TryA.g ?_ | refine TryA.next rfl ?_ | refine TryA.other ?_ | refine TryS.g ?_ | refine TryS.next rfl ?_ | refine TryS.other ?_ | refine TryG.g ?_ | refine TryG.next rfl ?_ | refine TryG.other ?_ | refine TryT.g ?_ | refine TryT.z ?_ | refine EmpOb.mk rfl ?_)
    refine ⟨⟨_, _, rfl, rfl, ?_⟩⟩
    exact .eq (congrArg qA ee)
  · have hh : 0 < h := by omega
    obtain ⟨st1, st2⟩ := sum_step hh hk hc e
    have ho : QB 1000 o := by
      have : o = sR h0 k0 - s * sR h k := by rw [← hT, ← e]; grind
      rw [this]
      exact sR_RB hk hk0 bk bk0 (by omega)
    have bs : QB 2 (s : Rat) := QB.i64 (by omega) (by omega)
    obtain ⟨t1, t2⟩ := term_bd hh hk bh bk
    have a0 : 0 < h * k := Nat.mul_pos hh hk
    have x1 : ((h : Int) * h) = ((h * h : Nat) : Int) := (Int.natCast_mul ..).symm
    have x2 : ((k : Int) * k) = ((k * k : Nat) : Int) := (Int.natCast_mul ..).symm
    have x3 : ((h : Int) * k) = ((h * k : Nat) : Int) := (Int.natCast_mul ..).symm
    have y1 := Nat.mul_le_mul bh bh
    have y2 := Nat.mul_le_mul bk bk
    have y3 := Nat.mul_le_mul bh bk
    have o1 := Of_sp h (by omega) (by omega)
    have o2 := Of_sp k (by omega) (by omega)
    have c1 := Of_sp 1 (by omega) (by omega)
    have c3 := Of_sp 3 (by omega) (by omega)
    have c12 := Of_sp 12 (by omega) (by omega)
    have lh : ln (h : Int).natAbs ≤ 2 := ln_i (Nat.lt_of_le_of_lt bh (by decide))
    have lk : ln (k : Int).natAbs ≤ 2 := ln_i (Nat.lt_of_le_of_lt bk (by decide))
    have l3 : ln (3 : Int).natAbs ≤ 2 := by decide
    have l12 : ln (12 : Int).natAbs ≤ 2 := by decide
    have l1 : ln (1 : Int).natAbs ≤ 2 := by decide
    have m1 := BMul_sp h h (by omega) (by omega)
    have m2 := BMul_sp k k (by omega) (by omega)
    have m3 := BMul_sp h k (by omega) (by omega)
    have lhh : ln ((h : Int) * h).natAbs ≤ 2 := ln_i (by rw [x1]; omega)
    have lkk : ln ((k : Int) * k).natAbs ≤ 2 := ln_i (by rw [x2]; omega)
    have lhk : ln ((h : Int) * k).natAbs ≤ 2 := ln_i (by rw [x3]; omega)
    have a1 := Add_sp ((h : Int) * h) ((k : Int) * k) (by omega) (by omega)
    have la : ln ((h : Int) * h + (k : Int) * k).natAbs ≤ 2 := ln_i (by rw [x1, x2]; omega)
    have a2 := Add_sp ((h : Int) * h + (k : Int) * k) 1 (by omega) (by omega)
    have lb : ln ((h : Int) * h + (k : Int) * k + 1).natAbs ≤ 2 := ln_i (by rw [x1, x2]; omega)
    have m4 := BMul_sp 3 ((h : Int) * k) (by omega) (by omega)
    have l3k : ln (3 * ((h : Int) * k)).natAbs ≤ 2 := ln_i (by rw [x3]; omega)
    have u1 := Sub_sp ((h : Int) * h + (k : Int) * k + 1) (3 * ((h : Int) * k)) (by omega) (by omega)
    have m5 := BMul_sp 12 ((h : Int) * k) (by omega) (by omega)
    have ln1 : ln ((h : Int) * h + (k : Int) * k + 1 - 3 * ((h : Int) * k)).natAbs ≤ 2 := ln_i (by omega)
    have ld1 : ln (12 * ((h : Int) * k)).natAbs ≤ 2 := ln_i (by omega)
    have d0 : (12 * ((h : Int) * k)) ≠ 0 := by rw [x3]; omega
    have mk := Make_sp ((h : Int) * h + (k : Int) * k + 1 - 3 * ((h : Int) * k)) (12 * ((h : Int) * k)) d0 (by omega) (by omega)
    have qt := QB.divInt (k := 2) d0 ln1 ld1
    generalize Rat.divInt ((h : Int) * h + (k : Int) * k + 1 - 3 * ((h : Int) * k)) (12 * ((h : Int) * k)) = t at *
    have r1 := RMul_sp (s : Rat) t (bs.mono (by omega)) (qt.mono (by omega))
    have r2 := RAdd_sp o ((s : Rat) * t) (ho.mono (by omega)) ((bs.mul qt).mono (by omega))
    have r3 := RNeg_sp (s : Rat) (bs.mono (by omega))
    have es : -(s : Rat) = ((-s : Int) : Rat) := by push_cast; rfl
    rw [es] at r3 st1
    have em : (k : Int).tmod h = ((k % h : Nat) : Int) := (Int.ofNat_tmod k h).symm
    have ml : k % h < h := Nat.mod_lt _ hh
    clear x1 x2 x3 y1 y2 y3 t1 t2 lh lk l3 l12 l1 lhh lkk lhk la lb l3k ln1 ld1 d0 qt a0 ho bs e hc
    repeat' ((conv => whnf); first | refine Ob.g ?_ | refine WrOb.g ?_ | refine WrOb.u32 ?_ | refine WrOb.u64 ?_ | refine Cases.y ?_ | refine Cases.n ?_ | refine Idx.g rfl ?_ | refine Idx.z rfl ?_ | refine DrawOb.start ?_ | refine TryF.f ?_ | refine TryF.next rfl ?_ | refine TryF.other ?_ | refine TryA.g ?_ | refine TryA.next rfl ?_ | refine TryA.other ?_ | refine TryS.g ?_ | refine TryS.next rfl ?_ | refine TryS.other ?_ | refine TryG.g ?_ | refine TryG.next rfl ?_ | refine TryG.other ?_ | refine TryT.g ?_ | refine TryT.z ?_ | refine EmpOb.mk rfl ?_ | refine Sp.g (o1) ?_ | refine Sp.g (o2) ?_ | refine Sp.g (c1) ?_ | refine Sp.g (c3) ?_ | refine Sp.g (c12) ?_ | refine Sp.g (m1) ?_ | refine Sp.g (m2) ?_ | refine Sp.g (m3) ?_ | refine Sp.g (m4) ?_ | refine Sp.g (m5) ?_ | refine Sp.g (a1) ?_ | refine Sp.g (a2) ?_ | refine Sp.g (u1) ?_ | refine Sp.g (mk) ?_ | refine Sp.g (r1) ?_ | refine Sp.g (r2) ?_ | refine Sp.g (r3) ?_)
    exact ⟨(k % h, h, o + (s : Rat) * t, -s), [], ⟨hh, by omega, bh, st2, by omega, st1⟩, ml, by
      refine ⟨?_, ?_, rfl⟩
      · exact .cons (.int em) (.cons (.refl _) (.cons (.refl _) (.cons (.refl _) (.cons (.refl _) .nil))))
      · exact .cons rfl (.refl _) (.cons rfl (.refl _) (.cons rfl (.refl _) .nil))⟩
theorem dres_sp (h : Int) (k : Nat) (hk : 0 < k) (h1 : -1073741824 ≤ h) (h2 : h ≤ 1073741824) (bk : k ≤ 1073741824) : Sp CX 48 [int .i64 h, int .i64 k] (int .i64 ((h % k).toNat : Nat)) := by
  have e1 := Int.emod_nonneg h (show (k : Int) ≠ 0 by omega)
  have e2 := Int.emod_lt_of_pos h (show (0 : Int) < k by omega)
  have et : (((h % k).toNat : Nat) : Int) = h % k := Int.toNat_of_nonneg e1
  have bt : -(k : Int) < h.tmod k ∧ h.tmod k < k ∧ h % (k : Int) = if h.tmod k < 0 then h.tmod k + k else h.tmod k := by
    by_cases h0 : h < 0
    · have e : h = -((h.natAbs : Nat) : Int) := by omega
      generalize h.natAbs = a at *
      subst e
      have t1 : (-(a : Int)).tmod k = -((a % k : Nat) : Int) := by rw [Int.neg_tmod]; rfl
      have ml : a % k < k := Nat.mod_lt _ hk
      rw [t1]
      refine ⟨by omega, by omega, ?_⟩
      by_cases hz : a % k = 0
      · rw [if_neg (by omega), (dm_even hz).2, hz]; rfl
      · rw [if_pos (by omega), (dm_low hk hz).2]; omega
    · have t1 : h.tmod k = h % k := Int.tmod_eq_emod_of_nonneg (by omega)
      rw [t1, if_neg (by omega)]
      exact ⟨by omega, e2, rfl⟩
  obtain ⟨b1, b2, b3⟩ := bt
  have k0 : (k : Int) ≠ 0 := by omega
  rw [et, b3]
  clear et e1 e2 b3
  by_cases ht : h.tmod k < 0
  · rw [if_pos ht]
    refine fn_sp (C := CX) [] [] tysX_ok mixed Try.func48 rfl (by kernel_rfl) Try.ntmps48 rfl rfl ?_
    repeat' ((conv => whnf); first | refine Ob.g ?_ | refine WrOb.g ?_ | refine WrOb.u32 ?_ | refine WrOb.u64 ?_ | refine Cases.y ?_ | refine Cases.n ?_ | refine Idx.g rfl ?_ | refine Idx.z rfl ?_ | refine DrawOb.start ?_ | refine TryF.f ?_ | refine TryF.next rfl ?_ | refine TryF.other ?_ | refine TryA.g ?_ | refine TryA.next rfl ?_ | refine TryA.other ?_ | refine TryS.g ?_ | refine TryS.next rfl ?_ | refine TryS.other ?_ | refine TryG.g ?_ | refine TryG.next rfl ?_ | refine TryG.other ?_ | refine TryT.g ?_ | refine TryT.z ?_ | refine EmpOb.mk rfl ?_)
    refine ⟨⟨_, _, rfl, rfl, ?_⟩⟩
    exact AvLe.refl _
  · rw [if_neg ht]
    refine fn_sp (C := CX) [] [] tysX_ok mixed Try.func48 rfl (by kernel_rfl) Try.ntmps48 rfl rfl ?_
    repeat' ((conv => whnf); first | refine Ob.g ?_ | refine WrOb.g ?_ | refine WrOb.u32 ?_ | refine WrOb.u64 ?_ | refine Cases.y ?_ | refine Cases.n ?_ | refine Idx.g rfl ?_ | refine Idx.z rfl ?_ | refine DrawOb.start ?_ | refine TryF.f ?_ | refine TryF.next rfl ?_ | refine TryF.other ?_ | refine TryA.g ?_ | refine TryA.next rfl ?_ | refine TryA.other ?_ | refine TryS.g ?_ | refine TryS.next rfl ?_ | refine TryS.other ?_ | refine TryG.g ?_ | refine TryG.next rfl ?_ | refine TryG.other ?_ | refine TryT.g ?_ | refine TryT.z ?_ | refine EmpOb.mk rfl ?_)
    refine ⟨⟨_, _, rfl, rfl, ?_⟩⟩
    exact AvLe.refl _
theorem fraction_sp (n d : Int) (h0 : d ≠ 0) (n1 : -9223372036854775808 ≤ n) (n2 : n ≤ 9223372036854775807) (d1 : -9223372036854775808 ≤ d) (d2 : d ≤ 9223372036854775807) : Sp CX 64 [int .i64 n, int .i64 d] (qA (Rat.divInt n d)) := by
  have o1 := Of_sp n n1 n2
  have o2 := Of_sp d d1 d2
  have m := Make_sp n d h0 (by have := ln64 n1 n2; omega) (by have := ln64 d1 d2; omega)
  refine fn_sp (C := CX) [] [] tysX_ok mixed Try.func64 rfl (by kernel_rfl) Try.ntmps64 rfl rfl ?_
  repeat' ((conv => whnf); first | refine Ob.g ?_ | refine WrOb.g ?_ | refine WrOb.u32 ?_ | refine WrOb.u64 ?_ | refine Cases.y ?_ | refine Cases.n ?_ | refine Idx.g rfl ?_ | refine Idx.z rfl ?_ | refine DrawOb.start ?_ | refine TryF.f ?_ | refine TryF.next rfl ?_ | refine TryF.other ?_ | refine TryA.g ?_ | refine TryA.next rfl ?_ | refine TryA.other ?_ | refine TryS.g ?_ | refine TryS.next rfl ?_ | refine TryS.other ?_ | refine TryG.g ?_ | refine TryG.next rfl ?_ | refine TryG.other ?_ | refine TryT.g ?_ | refine TryT.z ?_ | refine EmpOb.mk rfl ?_ | refine Sp.g (o1) ?_ | refine Sp.g (o2) ?_ | refine Sp.g (m) ?_)
  refine ⟨⟨_, _, rfl, rfl, ?_⟩⟩
  exact AvLe.refl _
end Go.Proofs.Ythfnbpnplbbibaa

/- Matrices of 2 by 2 in letters: in, fits, Det, Check, times, Mul. -/
namespace Go.Proofs.Ythfnbpnplbbibaa
open Go Go.RowKit Go.VG HP
def mA (a b c d : Int) : AV := .v (.agg [ix a, ix b, ix c, ix d])
/-- an entry -/
def InE (n : Int) : Prop := -1073741824 ≤ n ∧ n ≤ 1073741824
def FitE (a b c d : Int) : Prop := InE a ∧ InE b ∧ InE c ∧ InE d
instance (n : Int) : Decidable (InE n) := inferInstanceAs (Decidable (_ ∧ _))
instance (a b c d : Int) : Decidable (FitE a b c d) := inferInstanceAs (Decidable (_ ∧ _))
def I64 (n : Int) : Prop := -9223372036854775808 ≤ n ∧ n ≤ 9223372036854775807
theorem pbd {x y : Int} (hx : InE x) (hy : InE y) : -1152921504606846976 ≤ x * y ∧ x * y ≤ 1152921504606846976 := by
  obtain ⟨a, b⟩ := hx
  obtain ⟨c, d⟩ := hy
  have h : (x * y).natAbs ≤ 1073741824 * 1073741824 := by
    rw [Int.natAbs_mul]
    exact Nat.mul_le_mul (by omega) (by omega)
  omega
theorem in_sp (n : Int) : Sp CX 95 [int .i64 n] (bool (decide (InE n))) := by
  by_cases h1 : -1073741824 ≤ n
  · by_cases h2 : n ≤ 1073741824
    · rw [decide_eq_true (show InE n from ⟨h1, h2⟩)]
      refine fn_sp (C := CX) [] [] tysX_ok mixed Try.func95 rfl (by kernel_rfl) Try.ntmps95 rfl rfl ?_
      repeat' ((conv => whnf); first | refine Ob.g ?_ | refine WrOb.g ?_ | refine WrOb.u32 ?_ | refine WrOb.u64 ?_ | refine Cases.y ?_ | refine Cases.n ?_ | refine Idx.g rfl ?_ | refine Idx.z rfl ?_ | refine DrawOb.start ?_ | refine TryF.f ?_ | refine TryF.next rfl ?_ | refine TryF.other ?_ | refine TryA.g ?_ | refine TryA.next rfl ?_ | refine TryA.other ?_ | refine TryS.g ?_ | refine TryS.next rfl ?_ | refine TryS.other ?_ | refine TryG.g ?_ | refine TryG.next rfl ?_ | refine TryG.other ?_ | refine TryT.g ?_ | refine TryT.z ?_ | refine EmpOb.mk rfl ?_)
      refine ⟨⟨_, _, rfl, rfl, ?_⟩⟩
      exact AvLe.bool (decide_eq_true h2)
    · rw [decide_eq_false (show ¬ InE n from fun h => h2 h.2)]
      refine fn_sp (C := CX) [] [] tysX_ok mixed Try.func95 rfl (by kernel_rfl) Try.ntmps95 rfl rfl ?_
      repeat' ((conv => whnf); first | refine Ob.g ?_ | refine WrOb.g ?_ | refine WrOb.u32 ?_ | refine WrOb.u64 ?_ | refine Cases.y ?_ | refine Cases.n ?_ | refine Idx.g rfl ?_ | refine Idx.z rfl ?_ | refine DrawOb.start ?_ | refine TryF.f ?_ | refine TryF.next rfl ?_ | refine TryF.other ?_ | refine TryA.g ?_ | refine TryA.next rfl ?_ | refine TryA.other ?_ | refine TryS.g ?_ | refine TryS.next rfl ?_ | refine TryS.other ?_ | refine TryG.g ?_ | refine TryG.next rfl ?_ | refine TryG.other ?_ | refine TryT.g ?_ | refine TryT.z ?_ | refine EmpOb.mk rfl ?_)
      refine ⟨⟨_, _, rfl, rfl, ?_⟩⟩
      exact AvLe.bool (decide_eq_false h2)
  · rw [decide_eq_false (show ¬ InE n from fun h => h1 h.1)]
    refine fn_sp (C := CX) [] [] tysX_ok mixed Try.func95 rfl (by kernel_rfl) Try.ntmps95 rfl rfl ?_
    repeat' ((conv => whnf); first | refine Ob.g ?_ | refine WrOb.g ?_ | refine WrOb.u32 ?_ | refine WrOb.u64 ?_ | refine Cases.y ?_ | refine Cases.n ?_ | refine Idx.g rfl ?_ | refine Idx.z rfl ?_ | refine DrawOb.start ?_ | refine TryF.f ?_ | refine TryF.next rfl ?_ | refine TryF.other ?_ | refine TryA.g ?_ | refine TryA.next rfl ?_ | refine TryA.other ?_ | refine TryS.g ?_ | refine TryS.next rfl ?_ | refine TryS.other ?_ | refine TryG.g ?_ | refine TryG.next rfl ?_ | refine TryG.other ?_ | refine TryT.g ?_ | refine TryT.z ?_ | refine EmpOb.mk rfl ?_)
    refine ⟨⟨_, _, rfl, rfl, ?_⟩⟩
    exact AvLe.refl _
theorem fits_sp (a b c d : Int) : Sp CX 71 [mA a b c d] (bool (decide (FitE a b c d))) := by
  have s1 := in_sp a
  have s2 := in_sp b
  have s3 := in_sp c
  have s4 := in_sp d
  by_cases h1 : InE a
  · rw [decide_eq_true h1] at s1
    by_cases h2 : InE b
    · rw [decide_eq_true h2] at s2
      by_cases h3 : InE c
      · rw [decide_eq_true h3] at s3
        by_cases h4 : InE d
        · rw [decide_eq_true h4] at s4
          rw [decide_eq_true (show FitE a b c d from ⟨h1, h2, h3, h4⟩)]
          refine fn_sp (C := CX) [] [] tysX_ok mixed Try.func71 rfl (by kernel_rfl) Try.ntmps71 rfl rfl ?_
          repeat' ((conv => whnf); first | refine Ob.g ?_ | refine WrOb.g ?_ | refine WrOb.u32 ?_ | refine WrOb.u64 ?_ | refine Cases.y ?_ | refine Cases.n ?_ | refine Idx.g rfl ?_ | refine Idx.z rfl ?_ | refine DrawOb.start ?_ | refine TryF.f ?_ | refine TryF.next rfl ?_ | refine TryF.other ?_ | refine TryA.g ?_ | refine TryA.next rfl ?_ | refine TryA.other ?_ | refine TryS.g ?_ | refine TryS.next rfl ?_ | refine TryS.other ?_ | refine TryG.g ?_ | refine TryG.next rfl ?_ | refine TryG.other ?_ | refine TryT.g ?_ | refine TryT.z ?_ | refine EmpOb.mk rfl ?_ | refine Sp.g (s1) ?_ | refine Sp.g (s2) ?_ | refine Sp.g (s3) ?_ | refine Sp.g (s4) ?_)
          refine ⟨⟨_, _, rfl, rfl, ?_⟩⟩
          exact AvLe.refl _
        · rw [decide_eq_false h4] at s4
          rw [decide_eq_false (show ¬ FitE a b c d from fun h => h4 h.2.2.2)]
          refine fn_sp (C := CX) [] [] tysX_ok mixed Try.func71 rfl (by kernel_rfl) Try.ntmps71 rfl rfl ?_
          repeat' ((conv => whnf); first | refine Ob.g ?_ | refine WrOb.g ?_ | refine WrOb.u32 ?_ | refine WrOb.u64 ?_ | refine Cases.y ?_ | refine Cases.n ?_ | refine Idx.g rfl ?_ | refine Idx.z rfl ?_ | refine DrawOb.start ?_ | refine TryF.f ?_ | refine TryF.next rfl ?_ | refine TryF.other ?_ | refine TryA.g ?_ | refine TryA.next rfl ?_ | refine TryA.other ?_ | refine TryS.g ?_ | refine TryS.next rfl ?_ | refine TryS.other ?_ | refine TryG.g ?_ | refine TryG.next rfl ?_ | refine TryG.other ?_ | refine TryT.g ?_ | refine TryT.z ?_ | refine EmpOb.mk rfl ?_ | refine Sp.g (s1) ?_ | refine Sp.g (s2) ?_ | refine Sp.g (s3) ?_ | refine Sp.g (s4) ?_)
          refine ⟨⟨_, _, rfl, rfl, ?_⟩⟩
          exact AvLe.refl _
      · rw [decide_eq_false h3] at s3
        rw [decide_eq_false (show ¬ FitE a b c d from fun h => h3 h.2.2.1)]
        refine fn_sp (C := CX) [] [] tysX_ok mixed Try.func71 rfl (by kernel_rfl) Try.ntmps71 rfl rfl ?_
        repeat' ((conv => whnf); first | refine Ob.g ?_ | refine WrOb.g ?_ | refine WrOb.u32 ?_ | refine WrOb.u64 ?_ | refine Cases.y ?_ | refine Cases.n ?_ | refine Idx.g rfl ?_ | refine Idx.z rfl ?_ | refine DrawOb.start ?_ | refine TryF.f ?_ | refine TryF.next rfl ?_ | refine TryF.other ?_ | refine TryA.g ?_ | refine TryA.next rfl ?_ | refine TryA.other ?_ | refine TryS.g ?_ | refine TryS.next rfl ?_ | refine TryS.other ?_ | refine TryG.g ?_ | refine TryG.next rfl ?_ | refine TryG.other ?_ | refine TryT.g ?_ | refine TryT.z ?_ | refine EmpOb.mk rfl ?_ | refine Sp.g (s1) ?_ | refine Sp.g (s2) ?_ | refine Sp.g (s3) ?_ | refine Sp.g (s4) ?_)
        refine ⟨⟨_, _, rfl, rfl, ?_⟩⟩
        exact AvLe.refl _
    · rw [decide_eq_false h2] at s2
      rw [decide_eq_false (show ¬ FitE a b c d from fun h => h2 h.2.1)]
      refine fn_sp (C := CX) [] [] tysX_ok mixed Try.func71 rfl (by kernel_rfl) Try.ntmps71 rfl rfl ?_
      repeat' ((conv => whnf); first | refine Ob.g ?_ | refine WrOb.g ?_ | refine WrOb.u32 ?_ | refine WrOb.u64 ?_ | refine Cases.y ?_ | refine Cases.n ?_ | refine Idx.g rfl ?_ | refine Idx.z rfl ?_ | refine DrawOb.start ?_ | refine TryF.f ?_ | refine TryF.next rfl ?_ | refine TryF.other ?_ | refine TryA.g ?_ | refine TryA.next rfl ?_ | refine TryA.other ?_ | refine TryS.g ?_ | refine TryS.next rfl ?_ | refine TryS.other ?_ | refine TryG.g ?_ | refine TryG.next rfl ?_ | refine TryG.other ?_ | refine TryT.g ?_ | refine TryT.z ?_ | refine EmpOb.mk rfl ?_ | refine Sp.g (s1) ?_ | refine Sp.g (s2) ?_ | refine Sp.g (s3) ?_ | refine Sp.g (s4) ?_)
      refine ⟨⟨_, _, rfl, rfl, ?_⟩⟩
      exact AvLe.refl _
  · rw [decide_eq_false h1] at s1
    rw [decide_eq_false (show ¬ FitE a b c d from fun h => h1 h.1)]
    refine fn_sp (C := CX) [] [] tysX_ok mixed Try.func71 rfl (by kernel_rfl) Try.ntmps71 rfl rfl ?_
    repeat' ((conv => whnf); first | refine Ob.g ?_ | refine WrOb.g ?_ | refine WrOb.u32 ?_ | refine WrOb.u64 ?_ | refine Cases.y ?_ | refine Cases.n ?_ | refine Idx.g rfl ?_ | refine Idx.z rfl ?_ | refine DrawOb.start ?_ | refine TryF.f ?_ | refine TryF.next rfl ?_ | refine TryF.other ?_ | refine TryA.g ?_ | refine TryA.next rfl ?_ | refine TryA.other ?_ | refine TryS.g ?_ | refine TryS.next rfl ?_ | refine TryS.other ?_ | refine TryG.g ?_ | refine TryG.next rfl ?_ | refine TryG.other ?_ | refine TryT.g ?_ | refine TryT.z ?_ | refine EmpOb.mk rfl ?_ | refine Sp.g (s1) ?_ | refine Sp.g (s2) ?_ | refine Sp.g (s3) ?_ | refine Sp.g (s4) ?_)
    refine ⟨⟨_, _, rfl, rfl, ?_⟩⟩
    exact AvLe.refl _
theorem Det_no (a b c d : Int) (h : ¬ FitE a b c d) : Sp CX 87 [mA a b c d] (.tup [.c (ix 0), .c (ix 2)]) := by
  have s := fits_sp a b c d
  rw [decide_eq_false h] at s
  refine fn_sp (C := CX) [] [] tysX_ok mixed Try.func87 rfl (by kernel_rfl) Try.ntmps87 rfl rfl ?_
  repeat' ((conv => whnf); first | refine Ob.g ?_ | refine WrOb.g ?_ | refine WrOb.u32 ?_ | refine WrOb.u64 ?_ | refine Cases.y ?_ | refine Cases.n ?_ | refine Idx.g rfl ?_ | refine Idx.z rfl ?_ | refine DrawOb.start ?_ | refine TryF.f ?_ | refine TryF.next rfl ?_ | refine TryF.other ?_ | refine TryA.g ?_ | refine TryA.next rfl ?_ | refine TryA.other ?_ | refine TryS.g ?_ | refine TryS.next rfl ?_ | refine TryS.other ?_ | refine TryG.g ?_ | refine TryG.next rfl ?_ | refine TryG.other ?_ | refine TryT.g ?_ | refine TryT.z ?_ | refine EmpOb.mk rfl ?_ | refine Sp.g (s) ?_)
  refine ⟨⟨_, _, rfl, rfl, ?_⟩⟩
  exact AvLe.refl _
theorem Det_ok (a b c d : Int) (h : FitE a b c d) : Sp CX 87 [mA a b c d] (.tup [.c (ix (a * d - b * c)), .c (ix 0)]) := by
  have s := fits_sp a b c d
  rw [decide_eq_true h] at s
  have p1 := pbd h.1 h.2.2.2
  have p2 := pbd h.2.1 h.2.2.1
  refine fn_sp (C := CX) [] [] tysX_ok mixed Try.func87 rfl (by kernel_rfl) Try.ntmps87 rfl rfl ?_
  repeat' ((conv => whnf); first | refine Ob.g ?_ | refine WrOb.g ?_ | refine WrOb.u32 ?_ | refine WrOb.u64 ?_ | refine Cases.y ?_ | refine Cases.n ?_ | refine Idx.g rfl ?_ | refine Idx.z rfl ?_ | refine DrawOb.start ?_ | refine TryF.f ?_ | refine TryF.next rfl ?_ | refine TryF.other ?_ | refine TryA.g ?_ | refine TryA.next rfl ?_ | refine TryA.other ?_ | refine TryS.g ?_ | refine TryS.next rfl ?_ | refine TryS.other ?_ | refine TryG.g ?_ | refine TryG.next rfl ?_ | refine TryG.other ?_ | refine TryT.g ?_ | refine TryT.z ?_ | refine EmpOb.mk rfl ?_ | refine Sp.g (s) ?_)
  refine ⟨⟨_, _, rfl, rfl, ?_⟩⟩
  exact AvLe.refl _
def matE (a b c d : Int) : Int := if FitE a b c d then (if a * d - b * c = 1 then 0 else 12) else 2
theorem Check_sp (a b c d : Int) : Sp CX 63 [mA a b c d] (int .i64 (matE a b c d)) := by
  unfold matE
  by_cases h : FitE a b c d
  · have s := Det_ok a b c d h
    rw [if_pos h]
    by_cases h1 : a * d - b * c = 1
    · rw [if_pos h1]
      rw [h1] at s
      refine fn_sp (C := CX) [] [] tysX_ok mixed Try.func63 rfl (by kernel_rfl) Try.ntmps63 rfl rfl ?_
      repeat' ((conv => whnf); first | refine Ob.g ?_ | refine WrOb.g ?_ | refine WrOb.u32 ?_ | refine WrOb.u64 ?_ | refine Cases.y ?_ | refine Cases.n ?_ | refine Idx.g rfl ?_ | refine Idx.z rfl ?_ | refine DrawOb.start ?_ | refine TryF.f ?_ | refine TryF.next rfl ?_ | refine TryF.other ?_ | refine TryA.g ?_ | refine TryA.next rfl ?_ | refine TryA.other ?_ | refine TryS.g ?_ | refine TryS.next rfl ?_ | refine TryS.other ?_ | refine TryG.g ?_ | refine TryG.next rfl ?_ | refine TryG.other ?_ | refine TryT.g ?_ | refine TryT.z ?_ | refine EmpOb.mk rfl ?_ | refine Sp.g (s) ?_)
      refine ⟨⟨_, _, rfl, rfl, ?_⟩⟩
      exact AvLe.refl _
    · rw [if_neg h1]
      generalize a * d - b * c = z at *
      refine fn_sp (C := CX) [] [] tysX_ok mixed Try.func63 rfl (by kernel_rfl) Try.ntmps63 rfl rfl ?_
      repeat' ((conv => whnf); first | refine Ob.g ?_ | refine WrOb.g ?_ | refine WrOb.u32 ?_ | refine WrOb.u64 ?_ | refine Cases.y ?_ | refine Cases.n ?_ | refine Idx.g rfl ?_ | refine Idx.z rfl ?_ | refine DrawOb.start ?_ | refine TryF.f ?_ | refine TryF.next rfl ?_ | refine TryF.other ?_ | refine TryA.g ?_ | refine TryA.next rfl ?_ | refine TryA.other ?_ | refine TryS.g ?_ | refine TryS.next rfl ?_ | refine TryS.other ?_ | refine TryG.g ?_ | refine TryG.next rfl ?_ | refine TryG.other ?_ | refine TryT.g ?_ | refine TryT.z ?_ | refine EmpOb.mk rfl ?_ | refine Sp.g (s) ?_)
      refine ⟨⟨_, _, rfl, rfl, ?_⟩⟩
      exact AvLe.refl _
  · have s := Det_no a b c d h
    rw [if_neg h]
    refine fn_sp (C := CX) [] [] tysX_ok mixed Try.func63 rfl (by kernel_rfl) Try.ntmps63 rfl rfl ?_
    repeat' ((conv => whnf); first | refine Ob.g ?_ | refine WrOb.g ?_ | refine WrOb.u32 ?_ | refine WrOb.u64 ?_ | refine Cases.y ?_ | refine Cases.n ?_ | refine Idx.g rfl ?_ | refine Idx.z rfl ?_ | refine DrawOb.start ?_ | refine TryF.f ?_ | refine TryF.next rfl ?_ | refine TryF.other ?_ | refine TryA.g ?_ | refine TryA.next rfl ?_ | refine TryA.other ?_ | refine TryS.g ?_ | refine TryS.next rfl ?_ | refine TryS.other ?_ | refine TryG.g ?_ | refine TryG.next rfl ?_ | refine TryG.other ?_ | refine TryT.g ?_ | refine TryT.z ?_ | refine EmpOb.mk rfl ?_ | refine Sp.g (s) ?_)
    refine ⟨⟨_, _, rfl, rfl, ?_⟩⟩
    exact AvLe.refl _
end Go.Proofs.Ythfnbpnplbbibaa

/- Dedekind sums in letters: Sum, Phi. -/
namespace Go.Proofs.Ythfnbpnplbbibaa
open Go Go.RowKit Go.VG HP
theorem gcdW_one {a b : Int} (h : Int.gcd a b = 1) : gcdW a b = 1 := by unfold gcdW; rw [h]; rfl
/-- what Sum says of its arguments -/
def sumE (h k : Int) : Int := if k < 1 ∨ 1073741824 < k ∨ h < -1073741824 ∨ 1073741824 < h then 2 else if Int.gcd h k = 1 then 0 else 9
theorem Sum_bad (h k : Int) (bh : I64 h) (bk : I64 k) (hE : sumE h k ≠ 0) : Sp CX 13 [int .i64 h, int .i64 k] (.tup [.agg qZ, .c (ix (sumE h k))]) := by
  unfold sumE at *
  obtain ⟨bh1, bh2⟩ := bh
  obtain ⟨bk1, bk2⟩ := bk
  by_cases hr : k < 1 ∨ 1073741824 < k ∨ h < -1073741824 ∨ 1073741824 < h
  · rw [if_pos hr]
    by_cases c1 : k < 1
    · refine fn_sp (C := CX) [] [] tysX_ok mixed Try.func13 rfl (by kernel_rfl) Try.ntmps13 rfl rfl ?_
      repeat' ((conv => whnf); first | refine Ob.g ?_ | refine WrOb.g ?_ | refine WrOb.u32 ?_ | refine WrOb.u64 ?_ | refine Cases.y ?_ | refine Cases.n ?_ | refine Idx.g rfl ?_ | refine Idx.z rfl ?_ | refine DrawOb.start ?_ | refine TryF.f ?_ | refine TryF.next rfl ?_ | refine TryF.other ?_ | refine TryA.g ?_ | refine TryA.next rfl ?_ | refine TryA.other ?_ | refine TryS.g ?_ | refine TryS.next rfl ?_ | refine TryS.other ?_ | refine TryG.g ?_ | refine TryG.next rfl ?_ | refine TryG.other ?_ | refine TryT.g ?_ | refine TryT.z ?_ | refine EmpOb.mk rfl ?_)
      refine ⟨⟨_, _, rfl, rfl, ?_⟩⟩
      exact AvLe.refl _
    by_cases c2 : 1073741824 < k
    · refine fn_sp (C := CX) [] [] tysX_ok mixed Try.func13 rfl (by kernel_rfl) Try.ntmps13 rfl rfl ?_
      repeat' ((conv => whnf); first | refine Ob.g ?_ | refine WrOb.g ?_ | refine WrOb.u32 ?_ | refine WrOb.u64 ?_ | refine Cases.y ?_ | refine Cases.n ?_ | refine Idx.g rfl ?_ | refine Idx.z rfl ?_ | refine DrawOb.start ?_ | refine TryF.f ?_ | refine TryF.next rfl ?_ | refine TryF.other ?_ | refine TryA.g ?_ | refine TryA.next rfl ?_ | refine TryA.other ?_ | refine TryS.g ?_ | refine TryS.next rfl ?_ | refine TryS.other ?_ | refine TryG.g ?_ | refine TryG.next rfl ?_ | refine TryG.other ?_ | refine TryT.g ?_ | refine TryT.z ?_ | refine EmpOb.mk rfl ?_)
      refine ⟨⟨_, _, rfl, rfl, ?_⟩⟩
      exact AvLe.refl _
    by_cases c3 : h < -1073741824
    · refine fn_sp (C := CX) [] [] tysX_ok mixed Try.func13 rfl (by kernel_rfl) Try.ntmps13 rfl rfl ?_
      repeat' ((conv => whnf); first | refine Ob.g ?_ | refine WrOb.g ?_ | refine WrOb.u32 ?_ | refine WrOb.u64 ?_ | refine Cases.y ?_ | refine Cases.n ?_ | refine Idx.g rfl ?_ | refine Idx.z rfl ?_ | refine DrawOb.start ?_ | refine TryF.f ?_ | refine TryF.next rfl ?_ | refine TryF.other ?_ | refine TryA.g ?_ | refine TryA.next rfl ?_ | refine TryA.other ?_ | refine TryS.g ?_ | refine TryS.next rfl ?_ | refine TryS.other ?_ | refine TryG.g ?_ | refine TryG.next rfl ?_ | refine TryG.other ?_ | refine TryT.g ?_ | refine TryT.z ?_ | refine EmpOb.mk rfl ?_)
      refine ⟨⟨_, _, rfl, rfl, ?_⟩⟩
      exact AvLe.refl _
    · have c4 : 1073741824 < h := by omega
      refine fn_sp (C := CX) [] [] tysX_ok mixed Try.func13 rfl (by kernel_rfl) Try.ntmps13 rfl rfl ?_
      repeat' ((conv => whnf); first | refine Ob.g ?_ | refine WrOb.g ?_ | refine WrOb.u32 ?_ | refine WrOb.u64 ?_ | refine Cases.y ?_ | refine Cases.n ?_ | refine Idx.g rfl ?_ | refine Idx.z rfl ?_ | refine DrawOb.start ?_ | refine TryF.f ?_ | refine TryF.next rfl ?_ | refine TryF.other ?_ | refine TryA.g ?_ | refine TryA.next rfl ?_ | refine TryA.other ?_ | refine TryS.g ?_ | refine TryS.next rfl ?_ | refine TryS.other ?_ | refine TryG.g ?_ | refine TryG.next rfl ?_ | refine TryG.other ?_ | refine TryT.g ?_ | refine TryT.z ?_ | refine EmpOb.mk rfl ?_)
      refine ⟨⟨_, _, rfl, rfl, ?_⟩⟩
      exact AvLe.refl _
  · rw [if_neg hr] at hE ⊢
    have hg : ¬ Int.gcd h k = 1 := fun x => hE (if_pos x)
    rw [if_neg hg]
    have g := gcd_sp h k bh1 bh2 bk1 bk2
    have hw : gcdW h k ≠ 1 := by
      unfold gcdW
      split
      · omega
      · omega
    generalize gcdW h k = w at *
    refine fn_sp (C := CX) [] [] tysX_ok mixed Try.func13 rfl (by kernel_rfl) Try.ntmps13 rfl rfl ?_
    repeat' ((conv => whnf); first | refine Ob.g ?_ | refine WrOb.g ?_ | refine WrOb.u32 ?_ | refine WrOb.u64 ?_ | refine Cases.y ?_ | refine Cases.n ?_ | refine Idx.g rfl ?_ | refine Idx.z rfl ?_ | refine DrawOb.start ?_ | refine TryF.f ?_ | refine TryF.next rfl ?_ | refine TryF.other ?_ | refine TryA.g ?_ | refine TryA.next rfl ?_ | refine TryA.other ?_ | refine TryS.g ?_ | refine TryS.next rfl ?_ | refine TryS.other ?_ | refine TryG.g ?_ | refine TryG.next rfl ?_ | refine TryG.other ?_ | refine TryT.g ?_ | refine TryT.z ?_ | refine EmpOb.mk rfl ?_ | refine Sp.g (g) ?_)
    refine ⟨⟨_, _, rfl, rfl, ?_⟩⟩
    exact AvLe.refl _
theorem emod_le (h : Int) {k : Nat} (hk : 0 < k) : (h % k).toNat ≤ k := by
  have := Int.emod_lt_of_pos h (show (0 : Int) < k by omega)
  omega
theorem Sum_ok (h : Int) (k : Nat) (hk : 0 < k) (bk : k ≤ 1073741824) (bh : InE h) (hg : Int.gcd h k = 1) : Sp CX 13 [int .i64 h, int .i64 k] (.tup [qV (sR h k), .c (ix 0)]) := by
  obtain ⟨b1, b2⟩ := bh
  have g := gcd_sp h k (by omega) (by omega) (by omega) (by omega)
  rw [gcdW_one hg] at g
  have r := dres_sp h k hk b1 b2 bk
  have s := sum_sp (h % k).toNat k hk (gcd_toNat hk hg) (by have := emod_le h hk; omega) bk
  rw [emod_toNat hk, sR_emod] at s
  rw [emod_toNat hk] at r
  refine fn_sp (C := CX) [] [] tysX_ok mixed Try.func13 rfl (by kernel_rfl) Try.ntmps13 rfl rfl ?_
  repeat' ((conv => whnf); first | refine Ob.g ?_ | refine WrOb.g ?_ | refine WrOb.u32 ?_ | refine WrOb.u64 ?_ | refine Cases.y ?_ | refine Cases.n ?_ | refine Idx.g rfl ?_ | refine Idx.z rfl ?_ | refine DrawOb.start ?_ | refine TryF.f ?_ | refine TryF.next rfl ?_ | refine TryF.other ?_ | refine TryA.g ?_ | refine TryA.next rfl ?_ | refine TryA.other ?_ | refine TryS.g ?_ | refine TryS.next rfl ?_ | refine TryS.other ?_ | refine TryG.g ?_ | refine TryG.next rfl ?_ | refine TryG.other ?_ | refine TryT.g ?_ | refine TryT.z ?_ | refine EmpOb.mk rfl ?_ | refine Sp.g (g) ?_ | refine Sp.g (r) ?_ | refine Sp.g (s) ?_)
  refine ⟨⟨_, _, rfl, rfl, ?_⟩⟩
  exact AvLe.refl _
theorem sR_QB (h : Int) {k : Nat} (hk : 0 < k) (bk : k ≤ 1073741824) : QB 1000 (sR h k) := by
  have := sR_RB (h := 0) (h0 := h) (s := 0) hk hk bk bk (by decide)
  have e : sR h k - ((0 : Int) : Rat) * sR 0 k = sR h k := by
    have : ((0 : Int) : Rat) = 0 := rfl
    rw [this]
    grind
  rw [e] at this
  exact this
def iZ : List Leaf := [.x (.bool false), .x (.slice none 0 0)]
theorem Phi_bad (a b c d : Int) (hE : matE a b c d ≠ 0) : Sp CX 31 [mA a b c d] (.tup [.agg iZ, .c (ix (matE a b c d))]) := by
  have s := Check_sp a b c d
  generalize matE a b c d = e at *
  refine fn_sp (C := CX) [] [] tysX_ok mixed Try.func31 rfl (by kernel_rfl) Try.ntmps31 rfl rfl ?_
  repeat' ((conv => whnf); first | refine Ob.g ?_ | refine WrOb.g ?_ | refine WrOb.u32 ?_ | refine WrOb.u64 ?_ | refine Cases.y ?_ | refine Cases.n ?_ | refine Idx.g rfl ?_ | refine Idx.z rfl ?_ | refine DrawOb.start ?_ | refine TryF.f ?_ | refine TryF.next rfl ?_ | refine TryF.other ?_ | refine TryA.g ?_ | refine TryA.next rfl ?_ | refine TryA.other ?_ | refine TryS.g ?_ | refine TryS.next rfl ?_ | refine TryS.other ?_ | refine TryG.g ?_ | refine TryG.next rfl ?_ | refine TryG.other ?_ | refine TryT.g ?_ | refine TryT.z ?_ | refine EmpOb.mk rfl ?_ | refine Sp.g (s) ?_)
  refine ⟨⟨_, _, rfl, rfl, ?_⟩⟩
  exact AvLe.refl _
theorem mat_ok {a b c d : Int} (h : matE a b c d = 0) : FitE a b c d ∧ a * d - b * c = 1 := by
  unfold matE at h
  by_cases h1 : FitE a b c d
  · rw [if_pos h1] at h
    by_cases h2 : a * d - b * c = 1
    · exact ⟨h1, h2⟩
    · rw [if_neg h2] at h; omega
  · rw [if_neg h1] at h; omega
set_option maxHeartbeats 4000000 in
theorem Phi_ok (a b c d : Int) (hE : matE a b c d = 0) : Sp CX 31 [mA a b c d] (.tup [zV (rad ⟨a, b, c, d⟩), .c (ix 0)]) := by
  have s := Check_sp a b c d
  rw [hE] at s
  obtain ⟨hf, hd⟩ := mat_ok hE
  have one : (Mx.mk a b c d).One := hd
  have p := pbd hf.2.1 hf.2.2.2
  obtain ⟨⟨a1, a2⟩, _, ⟨c1, c2⟩, ⟨d1, d2⟩⟩ := hf
  by_cases hc : c = 0
  · have o := Of_sp (b * d) (by omega) (by omega)
    rw [rad_zero (x := ⟨a, b, c, d⟩) hc]
    refine fn_sp (C := CX) [] [] tysX_ok mixed Try.func31 rfl (by kernel_rfl) Try.ntmps31 rfl rfl ?_
    repeat' ((conv => whnf); first | refine Ob.g ?_ | refine WrOb.g ?_ | refine WrOb.u32 ?_ | refine WrOb.u64 ?_ | refine Cases.y ?_ | refine Cases.n ?_ | refine Idx.g rfl ?_ | refine Idx.z rfl ?_ | refine DrawOb.start ?_ | refine TryF.f ?_ | refine TryF.next rfl ?_ | refine TryF.other ?_ | refine TryA.g ?_ | refine TryA.next rfl ?_ | refine TryA.other ?_ | refine TryS.g ?_ | refine TryS.next rfl ?_ | refine TryS.other ?_ | refine TryG.g ?_ | refine TryG.next rfl ?_ | refine TryG.other ?_ | refine TryT.g ?_ | refine TryT.z ?_ | refine EmpOb.mk rfl ?_ | refine Sp.g (s) ?_ | refine Sp.g (o) ?_)
    refine ⟨⟨_, _, rfl, rfl, ?_⟩⟩
    exact AvLe.refl _
  · have hk : 0 < c.natAbs := by omega
    have gd : Int.gcd d c.natAbs = 1 := one.gcd
    have r := dres_sp d c.natAbs hk d1 d2 (by omega)
    have su := sum_sp (d % (c.natAbs : Int)).toNat c.natAbs hk (gcd_toNat hk gd) (by have := emod_le d hk; omega) (by omega)
    rw [emod_toNat hk, sR_emod] at su
    rw [emod_toNat hk] at r
    have fr := fraction_sp (a + d) c hc (by omega) (by omega) (by omega) (by omega)
    have o12 := ROf_sp 12 (by omega) (by omega)
    have om := ROf_sp (-12) (by omega) (by omega)
    have ph := phi_rad (m := ⟨a, b, c, d⟩) one hc
    rw [← Rat.divInt_eq_div] at ph
    have qs := sR_QB d hk (by omega)
    have q12 : QB 2 (((12 * c.sign : Int) : Rat)) := by
      rcases sgn_tri c with ⟨e, _⟩ | ⟨e, _⟩ | ⟨e, _⟩ <;> (rw [e]; exact QB.i64 (by omega) (by omega))
    have qf : QB 2 (Rat.divInt (a + d) c) := QB.divInt hc (ln64 (by omega) (by omega)) (ln64 (by omega) (by omega))
    have mu := RMul_sp ((12 * c.sign : Int) : Rat) (sR d c.natAbs) (q12.mono (by omega)) (qs.mono (by omega))
    have sb := RSub_sp (Rat.divInt (a + d) c) (((12 * c.sign : Int) : Rat) * sR d c.natAbs) (qf.mono (by omega)) ((q12.mul qs).mono (by omega))
    have ph' : Rat.divInt (a + d) c - ((12 * c.sign : Int) : Rat) * sR d c.natAbs = (rad ⟨a, b, c, d⟩ : Rat) := ph
    rw [ph'] at sb
    have rb := rad_bd (m := ⟨a, b, c, d⟩) one hc
    have rb2 : (rad ⟨a, b, c, d⟩).natAbs < 2 ^ (32 * 3) := by
      have h1 : c.natAbs * c.natAbs ≤ 1073741824 * 1073741824 := Nat.mul_le_mul (by omega) (by omega)
      have h2 : (a + d).natAbs ≤ 2147483648 := by omega
      have h3 : (rad ⟨a, b, c, d⟩).natAbs ≤ (a + d).natAbs + 12 * (c.natAbs * c.natAbs) := rb
      have h4 : (2 : Nat) ^ (32 * 3) = 79228162514264337593543950336 := by decide
      omega
    have it := Integer_sp (rad ⟨a, b, c, d⟩) (Nat.le_trans (ln_of rb2) (by omega))
    generalize rad ⟨a, b, c, d⟩ = R at *
    generalize sR d c.natAbs = S at *
    generalize Rat.divInt (a + d) c = F at *
    clear ph ph' qs q12 qf rb rb2 gd one p hd hE
    by_cases hn : c < 0
    · have e : 12 * c.sign = -12 := by rw [Int.sign_eq_neg_one_of_neg hn]; rfl
      have en : (c.natAbs : Int) = -c := by omega
      rw [e] at mu sb
      rw [en] at r su
      refine fn_sp (C := CX) [] [] tysX_ok mixed Try.func31 rfl (by kernel_rfl) Try.ntmps31 rfl rfl ?_
      repeat' ((conv => whnf); first | refine Ob.g ?_ | refine WrOb.g ?_ | refine WrOb.u32 ?_ | refine WrOb.u64 ?_ | refine Cases.y ?_ | refine Cases.n ?_ | refine Idx.g rfl ?_ | refine Idx.z rfl ?_ | refine DrawOb.start ?_ | refine TryF.f ?_ | refine TryF.next rfl ?_ | refine TryF.other ?_ | refine TryA.g ?_ | refine TryA.next rfl ?_ | refine TryA.other ?_ | refine TryS.g ?_ | refine TryS.next rfl ?_ | refine TryS.other ?_ | refine TryG.g ?_ | refine TryG.next rfl ?_ | refine TryG.other ?_ | refine TryT.g ?_ | refine TryT.z ?_ | refine EmpOb.mk rfl ?_ | refine Sp.g (s) ?_ | refine Sp.call (r) (.cons (.refl _) (.cons (.int (by show (if c < -c then -c else c) = _; split <;> omega)) .nil)) rfl (AvLe.refl _) ?_ | refine Sp.call (su) (.cons (.refl _) (.cons (.int (by show (if c < -c then -c else c) = _; split <;> omega)) .nil)) rfl (AvLe.refl _) ?_ | refine Sp.g (fr) ?_ | refine Sp.g (o12) ?_ | refine Sp.g (om) ?_ | refine Sp.g (mu) ?_ | refine Sp.g (sb) ?_ | refine Sp.g (it) ?_)
      refine ⟨⟨_, _, rfl, rfl, ?_⟩⟩
      exact AvLe.refl _
    · have e : 12 * c.sign = 12 := by rw [Int.sign_eq_one_of_pos (by omega)]; rfl
      have en : (c.natAbs : Int) = c := by omega
      rw [e] at mu sb
      rw [en] at r su
      refine fn_sp (C := CX) [] [] tysX_ok mixed Try.func31 rfl (by kernel_rfl) Try.ntmps31 rfl rfl ?_
      repeat' ((conv => whnf); first | refine Ob.g ?_ | refine WrOb.g ?_ | refine WrOb.u32 ?_ | refine WrOb.u64 ?_ | refine Cases.y ?_ | refine Cases.n ?_ | refine Idx.g rfl ?_ | refine Idx.z rfl ?_ | refine DrawOb.start ?_ | refine TryF.f ?_ | refine TryF.next rfl ?_ | refine TryF.other ?_ | refine TryA.g ?_ | refine TryA.next rfl ?_ | refine TryA.other ?_ | refine TryS.g ?_ | refine TryS.next rfl ?_ | refine TryS.other ?_ | refine TryG.g ?_ | refine TryG.next rfl ?_ | refine TryG.other ?_ | refine TryT.g ?_ | refine TryT.z ?_ | refine EmpOb.mk rfl ?_ | refine Sp.g (s) ?_ | refine Sp.call (r) (.cons (.refl _) (.cons (.int (by show (if c < -c then -c else c) = _; split <;> omega)) .nil)) rfl (AvLe.refl _) ?_ | refine Sp.call (su) (.cons (.refl _) (.cons (.int (by show (if c < -c then -c else c) = _; split <;> omega)) .nil)) rfl (AvLe.refl _) ?_ | refine Sp.g (fr) ?_ | refine Sp.g (o12) ?_ | refine Sp.g (om) ?_ | refine Sp.g (mu) ?_ | refine Sp.g (sb) ?_ | refine Sp.g (it) ?_)
      refine ⟨⟨_, _, rfl, rfl, ?_⟩⟩
      exact AvLe.refl _
end Go.Proofs.Ythfnbpnplbbibaa

/- Multipliers of eta quotients: plain facts. -/
namespace HP
/-- the divisors with their exponents -/
def prs (Z : Nat → Nat) (R : Nat → Int) : Nat → List (Int × Int)
  | 0 => []
  | i + 1 => prs Z R i ++ [((Z i : Int), R i)]
theorem prs_mem {Z : Nat → Nat} {R : Nat → Int} {p : Int × Int} : ∀ {i}, p ∈ prs Z R i → ∃ j, j < i ∧ p = ((Z j : Int), R j)
  | 0, h => by cases h
  | i + 1, h => by
    rcases List.mem_append.1 h with h | h
    · obtain ⟨j, h1, h2⟩ := prs_mem h
      exact ⟨j, by omega, h2⟩
    · exact ⟨i, by omega, by simpa using h⟩
theorem prs_tot (Z : Nat → Nat) (R : Nat → Int) (i : Nat) : totS (prs Z R (i + 1)) = totS (prs Z R i) + R i := by rw [prs, totS_snoc]
theorem prs_wgt (Z : Nat → Nat) (R : Nat → Int) (i : Nat) : wgtS (prs Z R (i + 1)) = wgtS (prs Z R i) + (Z i : Int) * R i := by rw [prs, wgtS_snoc]
theorem prs_rad (m : Mx) (Z : Nat → Nat) (R : Nat → Int) (i : Nat) : radS m (prs Z R (i + 1)) = radS m (prs Z R i) + R i * rad (m.at (Z i)) := by rw [prs, radS_snoc]
theorem prs_totR (m : Mx) (Z : Nat → Nat) (R : Nat → Int) (i : Nat) : totR m (prs Z R (i + 1)) = totR m (prs Z R i) + totR m [((Z i : Int), R i)] := by rw [prs, totR_snoc]
theorem zr_bd {z : Nat} {r : Int} (hz : z ≤ 120) (h1 : -200 ≤ r) (h2 : r ≤ 200) : -24000 ≤ (z : Int) * r ∧ (z : Int) * r ≤ 24000 := by
  have : ((z : Int) * r).natAbs ≤ 120 * 200 := by
    rw [Int.natAbs_mul]
    exact Nat.mul_le_mul (by omega) (by omega)
  omega
theorem prs_bd {Z : Nat → Nat} {R : Nat → Int} : ∀ i, (∀ j, j < i → Z j ≤ 120) → (∀ j, j < i → -200 ≤ R j ∧ R j ≤ 200) → -(200 * i : Int) ≤ totS (prs Z R i) ∧ totS (prs Z R i) ≤ 200 * i ∧ -(24000 * i : Int) ≤ wgtS (prs Z R i) ∧ wgtS (prs Z R i) ≤ 24000 * i
  | 0, _, _ => by show -(200 * ((0 : Nat) : Int)) ≤ 0 ∧ (0 : Int) ≤ 200 * ((0 : Nat) : Int) ∧ -(24000 * ((0 : Nat) : Int)) ≤ 0 ∧ (0 : Int) ≤ 24000 * ((0 : Nat) : Int); omega
  | i + 1, hz, hr => by
    obtain ⟨a, b, c, d⟩ := prs_bd i (fun j hj => hz j (by omega)) fun j hj => hr j (by omega)
    have e := hr i (by omega)
    have f := zr_bd (hz i (by omega)) e.1 e.2
    rw [prs_tot, prs_wgt]
    omega
theorem at_bd {m : Mx} (hm : m.One) (hc : 0 < m.c) (ha : m.a.natAbs ≤ 1073741824) (hd : m.d.natAbs ≤ 1073741824) (hcb : m.c ≤ 1073741824) {z : Int} (hz : 0 < z) (hzc : z ∣ m.c) : (rad (m.at z)).natAbs ≤ 13835058060000000000 := by
  obtain ⟨q, hq⟩ := hzc
  have e1 : (m.at z).c = q := by show m.c / z = q; rw [hq, Int.mul_ediv_cancel_left _ (by omega)]
  have q0 : 0 < q := by
    rw [hq] at hc
    exact Int.pos_of_mul_pos_right hc hz
  have qb : q ≤ m.c := by
    rw [hq]
    have : 1 * q ≤ z * q := Int.mul_le_mul_of_nonneg_right (by omega) (by omega)
    omega
  have b := rad_bd (hm.at (d := z) ⟨q, hq⟩) (by rw [e1]; omega)
  rw [e1] at b
  have b1 : q.natAbs * q.natAbs ≤ 1073741824 * 1073741824 := Nat.mul_le_mul (by omega) (by omega)
  have b2 : ((m.at z).a + (m.at z).d).natAbs ≤ 2147483648 := by show (m.a + m.d).natAbs ≤ _; omega
  omega
theorem radS_bd {m : Mx} (hm : m.One) (hc : 0 < m.c) (ha : m.a.natAbs ≤ 1073741824) (hd : m.d.natAbs ≤ 1073741824) (hcb : m.c ≤ 1073741824) {Z : Nat → Nat} {R : Nat → Int} : ∀ i, (∀ j, j < i → 0 < Z j ∧ (Z j : Int) ∣ m.c) → (∀ j, j < i → -200 ≤ R j ∧ R j ≤ 200) → (radS m (prs Z R i)).natAbs ≤ i * 2767011612000000000000
  | 0, _, _ => Nat.zero_le _
  | i + 1, hz, hr => by
    have ih := radS_bd hm hc ha hd hcb i (fun j hj => hz j (by omega)) fun j hj => hr j (by omega)
    have e := hr i (by omega)
    obtain ⟨z0, z1⟩ := hz i (by omega)
    have b := at_bd hm hc ha hd hcb (z := Z i) (by omega) z1
    have : (R i * rad (m.at (Z i))).natAbs ≤ 200 * 13835058060000000000 := by
      rw [Int.natAbs_mul]
      exact Nat.mul_le_mul (by omega) b
    rw [prs_rad]
    omega
/-- the members of the list of divisors -/
structure DvZ (n : Nat) (Z : Nat → Nat) (len : Nat) : Prop where
  z : ∀ i x, (dvs n)[i]? = some x → Z i = x
  l : len = (dvs n).length
theorem DvZ.at {n : Nat} {Z : Nat → Nat} {len : Nat} (h : DvZ n Z len) (hn : 0 < n) {i : Nat} (hi : i < len) : 0 < Z i ∧ Z i ∣ n ∧ Z i ≤ n := by
  rw [h.l] at hi
  have e := h.z i _ (List.getElem?_eq_getElem hi)
  have m : (dvs n)[i] ∈ dvs n := List.getElem_mem hi
  rw [← e] at m
  have d := (dvs_mem hn).1 m
  exact ⟨Nat.pos_of_dvd_of_pos d hn, d, Nat.le_of_dvd hn d⟩
theorem DvZ.le {n : Nat} {Z : Nat → Nat} {len : Nat} (h : DvZ n Z len) : len ≤ n + 1 := by
  rw [h.l]
  have := List.length_filter_le (isDv n) (List.range (n + 1))
  rw [List.length_range] at this
  exact this
end HP
namespace Go.Proofs.Ythfnbpnplbbibaa
open Go Go.RowKit Go.VG HP
/-- 24 parts -/
def q24 (n : Int) : Rat := (n : Rat) / ((24 : Int) : Rat)
theorem q24_eq (n : Int) : q24 n = Rat.divInt n 24 := (Rat.divInt_eq_div _ _).symm
theorem q24_QB {n : Int} {k : Nat} (h : ln n.natAbs ≤ k) (hk : 1 ≤ k) : QB k (q24 n) := by
  rw [q24_eq]
  exact QB.divInt (by omega) h (by rw [show ln (24 : Int).natAbs = 1 by decide]; exact hk)
theorem frp24_QB (n : Int) : QB 1 (frp (q24 n)) := by
  unfold q24
  rw [frp_div (by omega)]
  have h1 := Int.emod_nonneg n (show (24 : Int) ≠ 0 by omega)
  have h2 := Int.emod_lt_of_pos n (show (0 : Int) < 24 by omega)
  exact q24_QB (n := n % 24) (ln_i (by omega)) (by omega)
theorem part_sp (n : Int) (h : ln n.natAbs ≤ 1000) : Sp CX 68 [qA (q24 n)] (qA (frp (q24 n))) := by
  have q := q24_QB h (by omega)
  have f := RFloor_sp (q24 n) (q.mono (by omega))
  have e : (q24 n).floor = n / 24 := floor_div (by omega)
  have l : ln (n / 24).natAbs ≤ 1001 := by
    have h1 : (n / 24).natAbs ≤ n.natAbs + 1 := by omega
    have h2 := ln_add n.natAbs 1
    have h3 := ln_mono h1
    rw [ln_one] at h2
    omega
  have w := Whole_sp (n / 24) (by omega)
  have s := RSub_sp (q24 n) ((n / 24 : Int) : Rat) (q.mono (by omega)) ((QB.int l (by omega)).mono (by omega))
  have e2 : q24 n - ((n / 24 : Int) : Rat) = frp (q24 n) := by unfold frp; rw [e]
  rw [e2] at s
  rw [e] at f
  refine fn_sp (C := CX) [] [] tysX_ok mixed Try.func68 rfl (by kernel_rfl) Try.ntmps68 rfl rfl ?_
  repeat' ((conv => whnf); first | refine Ob.g ?_ | refine WrOb.g ?_ | refine WrOb.u32 ?_ | refine WrOb.u64 ?_ | refine Cases.y ?_ | refine Cases.n ?_ | refine Idx.g rfl ?_ | refine Idx.z rfl ?_ | refine DrawOb.start ?_ | refine TryF.f ?_ | refine TryF.next rfl ?_ | refine TryF.other ?_ | refine TryA.g ?_ | refine TryA.next rfl ?_ | refine TryA.other ?_ | refine TryS.g ?_ | refine TryS.next rfl ?_ | refine TryS.other ?_ | refine TryG.g ?_ | refine TryG.next rfl ?_ | refine TryG.other ?_ | refine TryT.g ?_ | refine TryT.z ?_ | refine EmpOb.mk rfl ?_ | refine Sp.g (f) ?_ | refine Sp.g (w) ?_ | refine Sp.g (s) ?_)
  refine ⟨⟨_, _, rfl, rfl, ?_⟩⟩
  exact AvLe.refl _
end Go.Proofs.Ythfnbpnplbbibaa

