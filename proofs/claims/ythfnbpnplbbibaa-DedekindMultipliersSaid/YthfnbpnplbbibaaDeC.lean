/- Multipliers of eta quotients in letters: the program's function. -/
import Derived.Test.YthfnbpnplbbibaaPkDeA
namespace Go.Proofs.Ythfnbpnplbbibaa
open Go Go.RowKit Go.VG HP
def muErr (e : Int) : AV := .tup [.agg qZ, .c (ix e)]
def isA (R : Nat → Int) (m : Nat) : AV := .v (.c (.sl 1 Int (fun z _ => ix z) R m))
def mulO (Z : Nat → Nat) (R : Nat → Int) (len : Nat) (a b c d : Int) : AV := .tup [qV (mulV ⟨a, b, c, d⟩ (prs Z R len)), .c (ix 0)]
/-- what a multiplier is, when the level and the number of exponents are right -/
def MuSpec (n : Nat) (Z : Nat → Nat) (R : Nat → Int) (len : Nat) (a b c d : Int) (r : AV) : Prop :=
  ((∃ i, i < len ∧ ¬ (-200 ≤ R i ∧ R i ≤ 200)) ∧ r = muErr 2) ∨
  ((∀ i, i < len → -200 ≤ R i ∧ R i ≤ 200) ∧ ((totS (prs Z R len) % 2 ≠ 0 ∧ r = muErr 6) ∨ (totS (prs Z R len) % 2 = 0 ∧
    ((matE a b c d ≠ 0 ∧ r = muErr (matE a b c d)) ∨ (matE a b c d = 0 ∧ ((¬ (n : Int) ∣ c ∧ r = muErr 12) ∨ ((n : Int) ∣ c ∧ r = mulO Z R len a b c d)))))))
theorem MuSpec.cl {n : Nat} {Z : Nat → Nat} {R : Nat → Int} {len : Nat} {a b c d : Int} {r : AV} (h : MuSpec n Z R len a b c d r) : avB [] r = true := by
  rcases h with ⟨_, rfl⟩ | ⟨_, ⟨_, rfl⟩ | ⟨_, ⟨_, rfl⟩ | ⟨_, ⟨_, rfl⟩ | ⟨_, rfl⟩⟩⟩⟩ <;> rfl
theorem MuSpec.ex (n : Nat) (Z : Nat → Nat) (R : Nat → Int) (len : Nat) (a b c d : Int) : ∃ r, MuSpec n Z R len a b c d r := by
  by_cases h1 : ∃ i, i < len ∧ ¬ (-200 ≤ R i ∧ R i ≤ 200)
  · exact ⟨_, .inl ⟨h1, rfl⟩⟩
  have h1' : ∀ i, i < len → -200 ≤ R i ∧ R i ≤ 200 := fun i hi => Classical.byContradiction fun k => h1 ⟨i, hi, k⟩
  by_cases h2 : totS (prs Z R len) % 2 = 0
  · by_cases h3 : matE a b c d = 0
    · by_cases h4 : (n : Int) ∣ c
      · exact ⟨_, .inr ⟨h1', .inr ⟨h2, .inr ⟨h3, .inr ⟨h4, rfl⟩⟩⟩⟩⟩
      · exact ⟨_, .inr ⟨h1', .inr ⟨h2, .inr ⟨h3, .inl ⟨h4, rfl⟩⟩⟩⟩⟩
    · exact ⟨_, .inr ⟨h1', .inr ⟨h2, .inl ⟨h3, rfl⟩⟩⟩⟩
  · exact ⟨_, .inr ⟨h1', .inl ⟨h2, rfl⟩⟩⟩
theorem Mult_range (n : Int) (R : Nat → Int) (m : Nat) (a b c d : Int) (h : n < 1 ∨ 120 < n) : Sp CX 36 [int .i64 n, isA R m, mA a b c d] (muErr 2) := by
  by_cases h1 : n < 1
  · refine fn_sp (C := CX) [] [] tysX_ok mixed Try.func36 rfl (by kernel_rfl) Try.ntmps36 rfl rfl ?_
    repeat' ((conv => whnf); first | refine Ob.g ?_ | refine WrOb.g ?_ | refine WrOb.u32 ?_ | refine WrOb.u64 ?_ | refine Cases.y ?_ | refine Cases.n ?_ | refine Idx.g rfl ?_ | refine Idx.z rfl ?_ | refine DrawOb.start ?_ | refine TryF.f ?_ | refine TryF.next rfl ?_ | refine TryF.other ?_ | refine TryA.g ?_ | refine TryA.next rfl ?_ | refine TryA.other ?_ | refine TryS.g ?_ | refine TryS.next rfl ?_ | refine TryS.other ?_ | refine TryG.g ?_ | refine TryG.next rfl ?_ | refine TryG.other ?_ | refine TryT.g ?_ | refine TryT.z ?_ | refine EmpOb.mk rfl ?_)
    refine ⟨⟨_, _, rfl, rfl, ?_⟩⟩
    exact AvLe.refl _
  · have h2 : 120 < n := by omega
    refine fn_sp (C := CX) [] [] tysX_ok mixed Try.func36 rfl (by kernel_rfl) Try.ntmps36 rfl rfl ?_
    repeat' ((conv => whnf); first | refine Ob.g ?_ | refine WrOb.g ?_ | refine WrOb.u32 ?_ | refine WrOb.u64 ?_ | refine Cases.y ?_ | refine Cases.n ?_ | refine Idx.g rfl ?_ | refine Idx.z rfl ?_ | refine DrawOb.start ?_ | refine TryF.f ?_ | refine TryF.next rfl ?_ | refine TryF.other ?_ | refine TryA.g ?_ | refine TryA.next rfl ?_ | refine TryA.other ?_ | refine TryS.g ?_ | refine TryS.next rfl ?_ | refine TryS.other ?_ | refine TryG.g ?_ | refine TryG.next rfl ?_ | refine TryG.other ?_ | refine TryT.g ?_ | refine TryT.z ?_ | refine EmpOb.mk rfl ?_)
    refine ⟨⟨_, _, rfl, rfl, ?_⟩⟩
    exact AvLe.refl _
theorem Mult_shape (n : Nat) (hn0 : 1 ≤ n) (hn : n ≤ 120) (R : Nat → Int) (m : Nat) (a b c d : Int) (h : m ≠ (dvs n).length) : Sp CX 36 [int .i64 n, isA R m, mA a b c d] (muErr 4) := by
  obtain ⟨Z, len, hZ, hl⟩ := zOf (dvs n) 0
  have s := divisors_sp n Z len hZ hl hn0 (by omega)
  rw [← hl] at h
  have h' : ¬ (m : Int) = len := by omega
  refine fn_sp (C := CX) [] [] tysX_ok mixed Try.func36 rfl (by kernel_rfl) Try.ntmps36 rfl rfl ?_
  repeat' ((conv => whnf); first | refine Ob.g ?_ | refine WrOb.g ?_ | refine WrOb.u32 ?_ | refine WrOb.u64 ?_ | refine Cases.y ?_ | refine Cases.n ?_ | refine Idx.g rfl ?_ | refine Idx.z rfl ?_ | refine DrawOb.start ?_ | refine TryF.f ?_ | refine TryF.next rfl ?_ | refine TryF.other ?_ | refine TryA.g ?_ | refine TryA.next rfl ?_ | refine TryA.other ?_ | refine TryS.g ?_ | refine TryS.next rfl ?_ | refine TryS.other ?_ | refine TryG.g ?_ | refine TryG.next rfl ?_ | refine TryG.other ?_ | refine TryT.g ?_ | refine TryT.z ?_ | refine EmpOb.mk rfl ?_ | refine Sp.g (s) ?_)
  refine ⟨⟨_, _, rfl, rfl, ?_⟩⟩
  exact AvLe.refl _
/-- the loop's sum, so far -/
theorem mulR_step {m : Mx} (hm : m.One) (hc : 0 < m.c) {z : Nat} (hz : 0 < z) (hzc : (z : Int) ∣ m.c) (N r : Int) :
    q24 N + Rat.divInt r 2 * (((z : Int) : Rat) * Rat.divInt (m.a + m.d) (12 * m.c) - sR m.d (m.c / z).natAbs) = q24 (N + r * rad (m.at z)) := by
  rw [Rat.divInt_eq_div, Rat.divInt_eq_div, rad_at hm hc (by omega) hzc]
  exact step24 N r _
theorem tmod0 (x n : Int) : x.tmod n = 0 ↔ n ∣ x := ⟨Int.dvd_of_tmod_eq_zero, Int.tmod_eq_zero_of_dvd⟩
theorem q24_mul (w k : Int) : Rat.divInt w 24 * (k : Rat) = q24 (w * k) := by
  rw [Rat.divInt_eq_div]
  unfold q24
  push_cast
  grind
theorem q24_add4 (x t : Int) : q24 x + Rat.divInt t 4 = q24 (x + 6 * t) := by
  rw [Rat.divInt_eq_div]
  unfold q24
  push_cast
  grind
theorem q24_sub8 (t : Int) : ((0 : Int) : Rat) - Rat.divInt t 8 = q24 (-(3 * t)) := by
  rw [Rat.divInt_eq_div]
  exact (start24 t).1
theorem q24_sub8' (t : Int) : Rat.divInt t 4 - Rat.divInt t 8 = q24 (3 * t) := by
  rw [Rat.divInt_eq_div, Rat.divInt_eq_div]
  exact (start24 t).2
theorem at_gcd {m : Mx} (hm : m.One) {z : Int} (h : z ∣ m.c) : Int.gcd m.d (m.c / z).natAbs = 1 := (hm.at h).gcd
/-- all that a step of the second loop calls -/
structure MuStep (A D C : Int) (z : Nat) (r N N' : Int) : Prop where
  e : C.tdiv z = ((C / z).natAbs : Nat)
  o : (z : Int) ≠ 0 ∧ InK .i64 (C.tdiv z)
  o1 : Sp CX 22 [int .i64 z] (qA (((z : Int)) : Rat))
  f1 : Sp CX 64 [int .i64 (A + D), int .i64 (12 * C)] (qA (Rat.divInt (A + D) (12 * C)))
  m1 : Sp CX 21 [qA (((z : Int)) : Rat), qA (Rat.divInt (A + D) (12 * C))] (qA ((((z : Int)) : Rat) * Rat.divInt (A + D) (12 * C)))
  rs : Sp CX 48 [int .i64 D, int .i64 ((C / z).natAbs : Nat)] (int .i64 (D % ((C / z).natAbs : Nat)))
  su : Sp CX 47 [int .i64 (D % ((C / z).natAbs : Nat)), int .i64 ((C / z).natAbs : Nat)] (qA (sR D (C / z).natAbs))
  sb : Sp CX 40 [qA ((((z : Int)) : Rat) * Rat.divInt (A + D) (12 * C)), qA (sR D (C / z).natAbs)] (qA ((((z : Int)) : Rat) * Rat.divInt (A + D) (12 * C) - sR D (C / z).natAbs))
  f2 : Sp CX 64 [int .i64 r, int .i64 2] (qA (Rat.divInt r 2))
  m2 : Sp CX 21 [qA (Rat.divInt r 2), qA ((((z : Int)) : Rat) * Rat.divInt (A + D) (12 * C) - sR D (C / z).natAbs)] (qA (Rat.divInt r 2 * ((((z : Int)) : Rat) * Rat.divInt (A + D) (12 * C) - sR D (C / z).natAbs)))
  ad : Sp CX 30 [qA (q24 N), qA (Rat.divInt r 2 * ((((z : Int)) : Rat) * Rat.divInt (A + D) (12 * C) - sR D (C / z).natAbs))] (qA (q24 N'))
theorem muStep {m : Mx} (hm : m.One) (hc : 0 < m.c) (ha : InE m.a) (hd : InE m.d) (hcb : m.c ≤ 1073741824) {z : Nat} (hz : 0 < z) (hz2 : z ≤ 120) (hzc : (z : Int) ∣ m.c) {r N : Int} (r1 : -200 ≤ r) (r2 : r ≤ 200) (hN : ln N.natAbs ≤ 3) :
    MuStep m.a m.d m.c z r N (N + r * rad (m.at z)) := by
  obtain ⟨a1, a2⟩ := ha
  obtain ⟨d1, d2⟩ := hd
  have hg := at_gcd hm hzc
  have hst := mulR_step hm hc hz hzc N r
  obtain ⟨q, hq⟩ := hzc
  have e1 : m.c / z = q := by rw [hq, Int.mul_ediv_cancel_left _ (by omega)]
  have q0 : 0 < q := by
    have hc' := hc
    rw [hq] at hc'
    exact Int.pos_of_mul_pos_right hc' (by omega)
  have qb : q ≤ m.c := by
    have : 1 * q ≤ z * q := Int.mul_le_mul_of_nonneg_right (by omega) (by omega)
    omega
  have et : m.c.tdiv z = q := by rw [hq, Int.mul_tdiv_cancel_left _ (by omega)]
  rw [e1] at hg hst
  have k0 : 0 < q.natAbs := by omega
  have c0 : 12 * m.c ≠ 0 := by omega
  have Qs := sR_QB m.d k0 (by omega)
  have Qf : QB 2 (Rat.divInt (m.a + m.d) (12 * m.c)) := QB.divInt c0 (ln64 (by omega) (by omega)) (ln64 (by omega) (by omega))
  have Qz : QB 2 (((z : Int)) : Rat) := QB.i64 (by omega) (by omega)
  have Qr : QB 2 (Rat.divInt r 2) := QB.divInt (by omega) (ln64 (by omega) (by omega)) (ln64 (by omega) (by omega))
  have Qn := q24_QB hN (by omega)
  have Q1 := Qz.mul Qf
  have Q2 := Q1.sub Qs
  have Q3 := Qr.mul Q2
  have rs := dres_sp m.d q.natAbs k0 d1 d2 (by omega)
  have su := sum_sp (m.d % (q.natAbs : Int)).toNat q.natAbs k0 (gcd_toNat k0 hg) (by have := emod_le m.d k0; omega) (by omega)
  rw [emod_toNat k0, sR_emod] at su
  rw [emod_toNat k0] at rs
  have ad := RAdd_sp (q24 N) (Rat.divInt r 2 * ((((z : Int)) : Rat) * Rat.divInt (m.a + m.d) (12 * m.c) - sR m.d q.natAbs)) (Qn.mono (by omega)) (Q3.mono (by omega))
  have hst' : q24 N + Rat.divInt r 2 * ((((z : Int)) : Rat) * Rat.divInt (m.a + m.d) (12 * m.c) - sR m.d q.natAbs) = q24 (N + r * rad (m.at z)) := hst
  rw [hst'] at ad
  refine ⟨?_, ?_, ROf_sp z (by omega) (by omega), fraction_sp _ _ c0 (by omega) (by omega) (by omega) (by omega), RMul_sp _ _ (Qz.mono (by omega)) (Qf.mono (by omega)), ?_, ?_, ?_, fraction_sp r 2 (by omega) (by omega) (by omega) (by omega) (by omega), ?_, ?_⟩
  · rw [e1, et]; omega
  · rw [et]
    exact ⟨by omega, by show -9223372036854775808 ≤ q ∧ q ≤ 9223372036854775807; omega⟩
  · rw [e1]; exact rs
  · rw [e1]; exact su
  · rw [e1]; exact RSub_sp _ _ (Q1.mono (by omega)) (Qs.mono (by omega))
  · rw [e1]; exact RMul_sp _ _ (Qr.mono (by omega)) (Q2.mono (by omega))
  · rw [e1]; exact ad
theorem ln3 {x : Int} (h : x.natAbs ≤ 70000000000000000000000000000) : ln x.natAbs ≤ 3 := ln_of (Nat.lt_of_le_of_lt h (by decide +kernel))
set_option maxHeartbeats 32000000 in
set_option maxRecDepth 20000 in
theorem Mult_ok (n : Nat) (hn0 : 1 ≤ n) (hn : n ≤ 120) (Z : Nat → Nat) (R : Nat → Int) (len : Nat) (hZ : DvZ n Z len) (a b c d : Int) (hR : ∀ i, i < len → I64 (R i)) (r : AV) (hr : MuSpec n Z R len a b c d r) :
    Sp CX 36 [int .i64 n, isA R len, mA a b c d] r := by
  have s := divisors_sp n Z len hZ.z hZ.l hn0 (by omega)
  have hl := hZ.le
  have ck := Check_sp a b c d
  refine fn_sp (C := CX) [] [] tysX_ok mixed Try.func36 rfl (by kernel_rfl) Try.ntmps36 rfl hr.cl ?_
  repeat' ((conv => whnf); first | refine Ob.g ?_ | refine WrOb.g ?_ | refine WrOb.u32 ?_ | refine WrOb.u64 ?_ | refine Cases.y ?_ | refine Cases.n ?_ | refine Idx.g rfl ?_ | refine Idx.z rfl ?_ | refine DrawOb.start ?_ | refine TryF.f ?_ | refine TryF.next rfl ?_ | refine TryF.other ?_ | refine TryA.g ?_ | refine TryA.next rfl ?_ | refine TryA.other ?_ | refine TryS.g ?_ | refine TryS.next rfl ?_ | refine TryS.other ?_ | refine TryG.g ?_ | refine TryG.next rfl ?_ | refine TryG.other ?_ | refine TryT.g ?_ | refine TryT.z ?_ | refine EmpOb.mk rfl ?_ | refine Sp.g (s) ?_)
  refine ⟨⟨Nat, fun i => ⟨[(0, int .i64 n), (1, isA R len), (5, .v (.c (.loc 0 0))), (6, .v (.c (.loc 1 0))), (8, .v (.c (.sl 1 Nat (fun z _ => ix z) Z len))), (10, int .i64 (totS (prs Z R i))), (11, int .i64 (wgtS (prs Z R i))), (37, .v (.c (.sl 1 Nat (fun z _ => ix z) Z len))), (38, int .i64 len), (39, int .i64 i)], [(0, .st [ix a, ix b, ix c, ix d]), (1, .st qZ)], 2⟩, fun i => i ≤ len ∧ ∀ j, j < i → -200 ≤ R j ∧ R j ≤ 200, fun i => len - i, ⟨0, [], ⟨Nat.zero_le _, fun j hj => absurd hj (Nat.not_lt_zero _)⟩, Ent.g⟩, ?_⟩⟩
  rintro i ⟨i1, hg⟩
  clear s
  obtain ⟨t1, t2, w1, w2⟩ := prs_bd (Z := Z) (R := R) i (fun j hj => by have := (hZ.at hn0 (show j < len by omega)).2.2; omega) hg
  by_cases hi : i < len
  · have bR := hR i hi
    obtain ⟨bR1, bR2⟩ := bR
    by_cases hb1 : R i < -200
    · have er : r = muErr 2 := by
        rcases hr with ⟨_, rfl⟩ | ⟨h, _⟩
        · rfl
        · have := h i hi; omega
      subst er
      clear hr ck
      repeat' ((conv => whnf); first | refine Ob.g ?_ | refine WrOb.g ?_ | refine WrOb.u32 ?_ | refine WrOb.u64 ?_ | refine Cases.y ?_ | refine Cases.n ?_ | refine Idx.g rfl ?_ | refine Idx.z rfl ?_ | refine DrawOb.start ?_ | refine TryF.f ?_ | refine TryF.next rfl ?_ | refine TryF.other ?_ | refine TryA.g ?_ | refine TryA.next rfl ?_ | refine TryA.other ?_ | refine TryS.g ?_ | refine TryS.next rfl ?_ | refine TryS.other ?_ | refine TryG.g ?_ | refine TryG.next rfl ?_ | refine TryG.other ?_ | refine TryT.g ?_ | refine TryT.z ?_ | refine EmpOb.mk rfl ?_)
      refine ⟨⟨_, _, rfl, rfl, ?_⟩⟩
      exact AvLe.refl _
    by_cases hb2 : 200 < R i
    · have er : r = muErr 2 := by
        rcases hr with ⟨_, rfl⟩ | ⟨h, _⟩
        · rfl
        · have := h i hi; omega
      subst er
      clear hr ck
      repeat' ((conv => whnf); first | refine Ob.g ?_ | refine WrOb.g ?_ | refine WrOb.u32 ?_ | refine WrOb.u64 ?_ | refine Cases.y ?_ | refine Cases.n ?_ | refine Idx.g rfl ?_ | refine Idx.z rfl ?_ | refine DrawOb.start ?_ | refine TryF.f ?_ | refine TryF.next rfl ?_ | refine TryF.other ?_ | refine TryA.g ?_ | refine TryA.next rfl ?_ | refine TryA.other ?_ | refine TryS.g ?_ | refine TryS.next rfl ?_ | refine TryS.other ?_ | refine TryG.g ?_ | refine TryG.next rfl ?_ | refine TryG.other ?_ | refine TryT.g ?_ | refine TryT.z ?_ | refine EmpOb.mk rfl ?_)
      refine ⟨⟨_, _, rfl, rfl, ?_⟩⟩
      exact AvLe.refl _
    · have e1 := prs_tot Z R i
      have e2 := prs_wgt Z R i
      have zb := hZ.at hn0 hi
      have zr := zr_bd (z := Z i) (r := R i) (by omega) (by omega) (by omega)
      clear hr ck
      repeat' ((conv => whnf); first | refine Ob.g ?_ | refine WrOb.g ?_ | refine WrOb.u32 ?_ | refine WrOb.u64 ?_ | refine Cases.y ?_ | refine Cases.n ?_ | refine Idx.g rfl ?_ | refine Idx.z rfl ?_ | refine DrawOb.start ?_ | refine TryF.f ?_ | refine TryF.next rfl ?_ | refine TryF.other ?_ | refine TryA.g ?_ | refine TryA.next rfl ?_ | refine TryA.other ?_ | refine TryS.g ?_ | refine TryS.next rfl ?_ | refine TryS.other ?_ | refine TryG.g ?_ | refine TryG.next rfl ?_ | refine TryG.other ?_ | refine TryT.g ?_ | refine TryT.z ?_ | refine EmpOb.mk rfl ?_)
      exact ⟨i + 1, [], ⟨hi, fun j hj => by
        by_cases h : j = i
        · rw [h]; omega
        · exact hg j (by omega)⟩, by show len - (i + 1) < len - i; omega, Ent.g⟩
  · obtain rfl : i = len := by omega
    obtain ⟨W, hW⟩ : ∃ W, W = wgtS (prs Z R i) := ⟨_, rfl⟩
    obtain ⟨T, hT⟩ : ∃ T, T = totS (prs Z R i) := ⟨_, rfl⟩
    have hem := tmod0 (totS (prs Z R i)) 2
    have hen := tmod0 c n
    unfold MuSpec at hr
    dsimp only
    rw [← hT] at t1 t2 hem hr ⊢
    rw [← hW] at w1 w2 ⊢
    rcases hr with ⟨⟨j, hj, hb⟩, _⟩ | ⟨_, hr⟩
    · exact absurd (hg j hj) hb
    rcases hr with ⟨ho, rfl⟩ | ⟨ho, hr⟩
    · have em : ¬ T.tmod 2 = 0 := fun h => ho (by have := hem.1 h; omega)
      repeat' ((conv => whnf); first | refine Ob.g ?_ | refine WrOb.g ?_ | refine WrOb.u32 ?_ | refine WrOb.u64 ?_ | refine Cases.y ?_ | refine Cases.n ?_ | refine Idx.g rfl ?_ | refine Idx.z rfl ?_ | refine DrawOb.start ?_ | refine TryF.f ?_ | refine TryF.next rfl ?_ | refine TryF.other ?_ | refine TryA.g ?_ | refine TryA.next rfl ?_ | refine TryA.other ?_ | refine TryS.g ?_ | refine TryS.next rfl ?_ | refine TryS.other ?_ | refine TryG.g ?_ | refine TryG.next rfl ?_ | refine TryG.other ?_ | refine TryT.g ?_ | refine TryT.z ?_ | refine EmpOb.mk rfl ?_)
      refine ⟨⟨_, _, rfl, rfl, ?_⟩⟩
      exact AvLe.refl _
    have em : T.tmod 2 = 0 := hem.2 (by omega)
    rcases hr with ⟨hm, rfl⟩ | ⟨hm, hr⟩
    · generalize matE a b c d = e at *
      repeat' ((conv => whnf); first | refine Ob.g ?_ | refine WrOb.g ?_ | refine WrOb.u32 ?_ | refine WrOb.u64 ?_ | refine Cases.y ?_ | refine Cases.n ?_ | refine Idx.g rfl ?_ | refine Idx.z rfl ?_ | refine DrawOb.start ?_ | refine TryF.f ?_ | refine TryF.next rfl ?_ | refine TryF.other ?_ | refine TryA.g ?_ | refine TryA.next rfl ?_ | refine TryA.other ?_ | refine TryS.g ?_ | refine TryS.next rfl ?_ | refine TryS.other ?_ | refine TryG.g ?_ | refine TryG.next rfl ?_ | refine TryG.other ?_ | refine TryT.g ?_ | refine TryT.z ?_ | refine EmpOb.mk rfl ?_ | refine Sp.g (ck) ?_)
      refine ⟨⟨_, _, rfl, rfl, ?_⟩⟩
      exact AvLe.refl _
    rw [hm] at ck
    rcases hr with ⟨hd, rfl⟩ | ⟨hd, rfl⟩
    · have en : ¬ c.tmod n = 0 := fun h => hd (hen.1 h)
      repeat' ((conv => whnf); first | refine Ob.g ?_ | refine WrOb.g ?_ | refine WrOb.u32 ?_ | refine WrOb.u64 ?_ | refine Cases.y ?_ | refine Cases.n ?_ | refine Idx.g rfl ?_ | refine Idx.z rfl ?_ | refine DrawOb.start ?_ | refine TryF.f ?_ | refine TryF.next rfl ?_ | refine TryF.other ?_ | refine TryA.g ?_ | refine TryA.next rfl ?_ | refine TryA.other ?_ | refine TryS.g ?_ | refine TryS.next rfl ?_ | refine TryS.other ?_ | refine TryG.g ?_ | refine TryG.next rfl ?_ | refine TryG.other ?_ | refine TryT.g ?_ | refine TryT.z ?_ | refine EmpOb.mk rfl ?_ | refine Sp.g (ck) ?_)
      refine ⟨⟨_, _, rfl, rfl, ?_⟩⟩
      exact AvLe.refl _
    have en : c.tmod n = 0 := hen.2 hd
    obtain ⟨hf, h1⟩ := mat_ok hm
    have one : (Mx.mk a b c d).One := h1
    have pb := pbd hf.2.1 hf.2.2.2
    obtain ⟨⟨a1, a2⟩, ⟨b1, b2⟩, ⟨c1, c2⟩, ⟨d1, d2⟩⟩ := hf
    have z0 := ROf_sp 0 (by omega) (by omega)
    have f4 := fraction_sp T 4 (by omega) (by omega) (by omega) (by omega) (by omega)
    have f8 := fraction_sp T 8 (by omega) (by omega) (by omega) (by omega) (by omega)
    have hdv : ∀ p ∈ prs Z R i, 0 < p.1 ∧ p.1 ∣ (Mx.mk a b c d).c := fun p hp => by
      obtain ⟨j, hj, rfl⟩ := prs_mem hp
      obtain ⟨z1, z2, _⟩ := hZ.at hn0 hj
      exact ⟨by show (0 : Int) < (Z j : Int); omega, Int.dvd_trans (Int.natCast_dvd_natCast.2 z2) hd⟩
    clear hem hen hm ho
    by_cases hc0 : c = 0
    · have mz := mulV_zero (m := ⟨a, b, c, d⟩) hc0 (l := prs Z R i)
      have had : a * d = 1 := by rw [hc0, Int.mul_zero, Int.sub_zero] at h1; exact h1
      have f24 := fraction_sp W 24 (by omega) (by omega) (by omega) (by omega) (by omega)
      have obd := ROf_sp (b * d) (by omega) (by omega)
      have Q1 : QB 2 (Rat.divInt W 24) := QB.divInt (by omega) (ln64 (by omega) (by omega)) (ln64 (by omega) (by omega))
      have Q2 : QB 2 (((b * d : Int)) : Rat) := QB.i64 (by omega) (by omega)
      have mu := RMul_sp (Rat.divInt W 24) ((b * d : Int) : Rat) (Q1.mono (by omega)) (Q2.mono (by omega))
      rw [q24_mul] at mu
      have wb : (W * (b * d)).natAbs ≤ 2904000 * 1152921504606846976 := by
        rw [Int.natAbs_mul]
        exact Nat.mul_le_mul (by omega) (by omega)
      have pv : mulV ⟨a, b, c, d⟩ (prs Z R i) = frp (q24 (W * (b * d) + if d < 0 then 6 * T else 0)) := by
        show frp _ = frp _
        rw [psiS_zero (m := ⟨a, b, c, d⟩) hc0, hW, hT]
        rfl
      unfold mulO
      rw [pv]
      clear mz one f8 hdv h1 pv
      rcases unit_right had with h | h
      · have eq : (W * (b * d) + if d < 0 then 6 * T else 0) = W * (b * d) := by rw [if_neg (by omega), Int.add_zero]
        rw [eq]
        have pt := part_sp (W * (b * d)) (Nat.le_trans (ln3 (by omega)) (by omega))
        repeat' ((conv => whnf); first | refine Ob.g ?_ | refine WrOb.g ?_ | refine WrOb.u32 ?_ | refine WrOb.u64 ?_ | refine Cases.y ?_ | refine Cases.n ?_ | refine Idx.g rfl ?_ | refine Idx.z rfl ?_ | refine DrawOb.start ?_ | refine TryF.f ?_ | refine TryF.next rfl ?_ | refine TryF.other ?_ | refine TryA.g ?_ | refine TryA.next rfl ?_ | refine TryA.other ?_ | refine TryS.g ?_ | refine TryS.next rfl ?_ | refine TryS.other ?_ | refine TryG.g ?_ | refine TryG.next rfl ?_ | refine TryG.other ?_ | refine TryT.g ?_ | refine TryT.z ?_ | refine EmpOb.mk rfl ?_ | refine Sp.g (ck) ?_ | refine Sp.g (z0) ?_ | refine Sp.g (f24) ?_ | refine Sp.g (obd) ?_ | refine Sp.g (mu) ?_ | refine Sp.g (pt) ?_)
        refine ⟨⟨_, _, rfl, rfl, ?_⟩⟩
        exact AvLe.refl _
      · have eq : (W * (b * d) + if d < 0 then 6 * T else 0) = W * (b * d) + 6 * T := by rw [if_pos (by omega)]
        rw [eq]
        have pt := part_sp (W * (b * d) + 6 * T) (Nat.le_trans (ln3 (by omega)) (by omega))
        have ad := RAdd_sp (q24 (W * (b * d))) (Rat.divInt T 4) ((q24_QB (ln3 (by omega)) (by omega)).mono (by omega)) ((QB.divInt (k := 2) (by omega) (ln64 (by omega) (by omega)) (ln64 (by omega) (by omega))).mono (by omega))
        rw [q24_add4] at ad
        repeat' ((conv => whnf); first | refine Ob.g ?_ | refine WrOb.g ?_ | refine WrOb.u32 ?_ | refine WrOb.u64 ?_ | refine Cases.y ?_ | refine Cases.n ?_ | refine Idx.g rfl ?_ | refine Idx.z rfl ?_ | refine DrawOb.start ?_ | refine TryF.f ?_ | refine TryF.next rfl ?_ | refine TryF.other ?_ | refine TryA.g ?_ | refine TryA.next rfl ?_ | refine TryA.other ?_ | refine TryS.g ?_ | refine TryS.next rfl ?_ | refine TryS.other ?_ | refine TryG.g ?_ | refine TryG.next rfl ?_ | refine TryG.other ?_ | refine TryT.g ?_ | refine TryT.z ?_ | refine EmpOb.mk rfl ?_ | refine Sp.g (ck) ?_ | refine Sp.g (z0) ?_ | refine Sp.g (f24) ?_ | refine Sp.g (f4) ?_ | refine Sp.g (obd) ?_ | refine Sp.g (mu) ?_ | refine Sp.g (pt) ?_ | refine Sp.g (ad) ?_)
        refine ⟨⟨_, _, rfl, rfl, ?_⟩⟩
        exact AvLe.refl _
    have hlen : i ≤ 121 := by omega
    by_cases hneg : c < 0
    · have sub := RSub_sp (Rat.divInt T 4) (Rat.divInt T 8) ((QB.divInt (k := 2) (by omega) (ln64 (by omega) (by omega)) (ln64 (by omega) (by omega))).mono (by omega)) ((QB.divInt (k := 2) (by omega) (ln64 (by omega) (by omega)) (ln64 (by omega) (by omega))).mono (by omega))
      rw [q24_sub8'] at sub
      have oneM : (Mx.mk (-a) (-b) (-c) (-d)).One := one.neg
      have pe : psiS ⟨a, b, c, d⟩ (prs Z R i) = 3 * T + radS ⟨(-a), (-b), (-c), (-d)⟩ (prs Z R i) := by
        have h := psiS_neg (m := ⟨a, b, c, d⟩) one (show c < 0 by omega) hdv
        rw [← hT] at h
        have h' : psiS ⟨a, b, c, d⟩ (prs Z R i) = radS ⟨-a, -b, -c, -d⟩ (prs Z R i) + 3 * T := h
        omega
      have pv : mulV ⟨a, b, c, d⟩ (prs Z R i) = frp (q24 (3 * T + radS ⟨(-a), (-b), (-c), (-d)⟩ (prs Z R i))) := by
        show frp _ = frp _
        rw [pe]
        rfl
      unfold mulO
      rw [pv]
      clear pv pe hdv h1 hW w1 w2 pb
      repeat' ((conv => whnf); first | refine Ob.g ?_ | refine WrOb.g ?_ | refine WrOb.u32 ?_ | refine WrOb.u64 ?_ | refine Cases.y ?_ | refine Cases.n ?_ | refine Idx.g rfl ?_ | refine Idx.z rfl ?_ | refine DrawOb.start ?_ | refine TryF.f ?_ | refine TryF.next rfl ?_ | refine TryF.other ?_ | refine TryA.g ?_ | refine TryA.next rfl ?_ | refine TryA.other ?_ | refine TryS.g ?_ | refine TryS.next rfl ?_ | refine TryS.other ?_ | refine TryG.g ?_ | refine TryG.next rfl ?_ | refine TryG.other ?_ | refine TryT.g ?_ | refine TryT.z ?_ | refine EmpOb.mk rfl ?_ | refine Sp.g (ck) ?_ | refine Sp.g (z0) ?_ | refine Sp.g (f4) ?_ | refine Sp.g (f8) ?_ | refine Sp.g (sub) ?_)
      refine ⟨⟨Nat × Int, fun (j, N) => ⟨[(1, isA R i), (5, .v (.c (.loc 0 0))), (6, .v (.c (.loc 1 0))), (15, .v (.c (.loc 2 0))), (132, .v (.c (.sl 1 Nat (fun z _ => ix z) Z i))), (133, int .i64 i), (134, int .i64 j)], [(0, .st [ix (-a), ix (-b), ix (-c), ix (-d)]), (1, .st qZ), (2, .st (qLs (q24 N)))], 3⟩, fun (j, N) => j ≤ i ∧ N = 3 * T + radS ⟨(-a), (-b), (-c), (-d)⟩ (prs Z R j), fun (j, _) => i - j, ⟨(0, 3 * T), [], ⟨Nat.zero_le _, (Int.add_zero _).symm⟩, Ent.g⟩, ?_⟩⟩
      rintro ⟨j, N⟩ ⟨hj, eN⟩
      clear ck z0 f4 f8 sub
      have hdj : ∀ k, k < j → 0 < Z k ∧ (Z k : Int) ∣ (Mx.mk (-a) (-b) (-c) (-d)).c := fun k hk => by
        obtain ⟨z1, z2, _⟩ := hZ.at hn0 (show k < i by omega)
        exact ⟨z1, Int.dvd_trans (Int.natCast_dvd_natCast.2 z2) (Int.dvd_neg.2 hd)⟩
      have rb := radS_bd (m := ⟨(-a), (-b), (-c), (-d)⟩) oneM (by show 0 < (-c); omega) (by show ((-a)).natAbs ≤ _; omega) (by show ((-d)).natAbs ≤ _; omega) (by show (-c) ≤ _; omega) (R := R) j hdj fun k hk => hg k (by omega)
      have lN : ln N.natAbs ≤ 3 := ln3 (by omega)
      by_cases hji : j < i
      · obtain ⟨z1, z2, z3⟩ := hZ.at hn0 hji
        have gj := hg j hji
        have st := muStep (m := ⟨(-a), (-b), (-c), (-d)⟩) oneM (by show 0 < (-c); omega) ⟨by show -1073741824 ≤ (-a); omega, by show (-a) ≤ 1073741824; omega⟩ ⟨by show -1073741824 ≤ (-d); omega, by show (-d) ≤ 1073741824; omega⟩ (by show (-c) ≤ _; omega) z1 (by omega) (Int.dvd_trans (Int.natCast_dvd_natCast.2 z2) (Int.dvd_neg.2 hd)) (r := R j) gj.1 gj.2 lN
        have pr := prs_rad ⟨(-a), (-b), (-c), (-d)⟩ Z R j
        obtain ⟨x1, x2, x3, x4, x5, x6, x7, x8, x9, x10, x11⟩ := st
        have eN' : N + R j * rad ((Mx.mk (-a) (-b) (-c) (-d)).at (Z j)) = 3 * T + radS ⟨(-a), (-b), (-c), (-d)⟩ (prs Z R (j + 1)) := by omega
        clear hdj rb lN
        repeat' ((conv => whnf); first | (refine Ob.mk x2 ?_) | refine Ob.g ?_ | refine WrOb.g ?_ | refine WrOb.u32 ?_ | refine WrOb.u64 ?_ | refine Cases.y ?_ | refine Cases.n ?_ | refine Idx.g rfl ?_ | refine Idx.z rfl ?_ | refine DrawOb.start ?_ | refine TryF.f ?_ | refine TryF.next rfl ?_ | refine TryF.other ?_ | refine TryA.g ?_ | refine TryA.next rfl ?_ | refine TryA.other ?_ | refine TryS.g ?_ | refine TryS.next rfl ?_ | refine TryS.other ?_ | refine TryG.g ?_ | refine TryG.next rfl ?_ | refine TryG.other ?_ | refine TryT.g ?_ | refine TryT.z ?_ | refine EmpOb.mk rfl ?_ | refine Sp.g (x3) ?_ | refine Sp.g (x4) ?_ | refine Sp.g (x5) ?_ | refine Sp.call (x6) (.cons (.refl _) (.cons (.int x1) .nil)) rfl (AvLe.refl _) ?_ | refine Sp.call (x7) (.cons (.refl _) (.cons (.int x1) .nil)) rfl (AvLe.refl _) ?_ | refine Sp.g (x8) ?_ | refine Sp.g (x9) ?_ | refine Sp.g (x10) ?_ | refine Sp.g (x11) ?_)
        exact ⟨(j + 1, _), [], ⟨hji, eN'⟩, by show i - (j + 1) < i - j; omega, Ent.g⟩
      · obtain rfl : j = i := by omega
        rw [← eN]
        have pt := part_sp N (Nat.le_trans lN (by omega))
        repeat' ((conv => whnf); first | refine Ob.g ?_ | refine WrOb.g ?_ | refine WrOb.u32 ?_ | refine WrOb.u64 ?_ | refine Cases.y ?_ | refine Cases.n ?_ | refine Idx.g rfl ?_ | refine Idx.z rfl ?_ | refine DrawOb.start ?_ | refine TryF.f ?_ | refine TryF.next rfl ?_ | refine TryF.other ?_ | refine TryA.g ?_ | refine TryA.next rfl ?_ | refine TryA.other ?_ | refine TryS.g ?_ | refine TryS.next rfl ?_ | refine TryS.other ?_ | refine TryG.g ?_ | refine TryG.next rfl ?_ | refine TryG.other ?_ | refine TryT.g ?_ | refine TryT.z ?_ | refine EmpOb.mk rfl ?_ | refine Sp.g (pt) ?_)
        refine ⟨⟨_, _, rfl, rfl, ?_⟩⟩
        exact AvLe.refl _
    · have sub := RSub_sp ((0 : Int) : Rat) (Rat.divInt T 8) ((QB.i64 (n := 0) (by omega) (by omega)).mono (by omega)) ((QB.divInt (k := 2) (by omega) (ln64 (by omega) (by omega)) (ln64 (by omega) (by omega))).mono (by omega))
      rw [q24_sub8] at sub
      have oneM : (Mx.mk a b c d).One := one
      have pe : psiS ⟨a, b, c, d⟩ (prs Z R i) = -(3 * T) + radS ⟨a, b, c, d⟩ (prs Z R i) := by
        have h := psiS_pos (m := ⟨a, b, c, d⟩) (show 0 < c by omega) hdv
        rw [← hT] at h
        have h' : psiS ⟨a, b, c, d⟩ (prs Z R i) = radS ⟨a, b, c, d⟩ (prs Z R i) - 3 * T := h
        omega
      have pv : mulV ⟨a, b, c, d⟩ (prs Z R i) = frp (q24 (-(3 * T) + radS ⟨a, b, c, d⟩ (prs Z R i))) := by
        show frp _ = frp _
        rw [pe]
        rfl
      unfold mulO
      rw [pv]
      clear pv pe hdv h1 hW w1 w2 pb
      repeat' ((conv => whnf); first | refine Ob.g ?_ | refine WrOb.g ?_ | refine WrOb.u32 ?_ | refine WrOb.u64 ?_ | refine Cases.y ?_ | refine Cases.n ?_ | refine Idx.g rfl ?_ | refine Idx.z rfl ?_ | refine DrawOb.start ?_ | refine TryF.f ?_ | refine TryF.next rfl ?_ | refine TryF.other ?_ | refine TryA.g ?_ | refine TryA.next rfl ?_ | refine TryA.other ?_ | refine TryS.g ?_ | refine TryS.next rfl ?_ | refine TryS.other ?_ | refine TryG.g ?_ | refine TryG.next rfl ?_ | refine TryG.other ?_ | refine TryT.g ?_ | refine TryT.z ?_ | refine EmpOb.mk rfl ?_ | refine Sp.g (ck) ?_ | refine Sp.g (z0) ?_ | refine Sp.g (f4) ?_ | refine Sp.g (f8) ?_ | refine Sp.g (sub) ?_)
      refine ⟨⟨Nat × Int, fun (j, N) => ⟨[(1, isA R i), (5, .v (.c (.loc 0 0))), (6, .v (.c (.loc 1 0))), (15, .v (.c (.loc 2 0))), (132, .v (.c (.sl 1 Nat (fun z _ => ix z) Z i))), (133, int .i64 i), (134, int .i64 j)], [(0, .st [ix a, ix b, ix c, ix d]), (1, .st qZ), (2, .st (qLs (q24 N)))], 3⟩, fun (j, N) => j ≤ i ∧ N = -(3 * T) + radS ⟨a, b, c, d⟩ (prs Z R j), fun (j, _) => i - j, ⟨(0, -(3 * T)), [], ⟨Nat.zero_le _, (Int.add_zero _).symm⟩, Ent.g⟩, ?_⟩⟩
      rintro ⟨j, N⟩ ⟨hj, eN⟩
      clear ck z0 f4 f8 sub
      have hdj : ∀ k, k < j → 0 < Z k ∧ (Z k : Int) ∣ (Mx.mk a b c d).c := fun k hk => by
        obtain ⟨z1, z2, _⟩ := hZ.at hn0 (show k < i by omega)
        exact ⟨z1, Int.dvd_trans (Int.natCast_dvd_natCast.2 z2) hd⟩
      have rb := radS_bd (m := ⟨a, b, c, d⟩) oneM (by show 0 < c; omega) (by show (a).natAbs ≤ _; omega) (by show (d).natAbs ≤ _; omega) (by show c ≤ _; omega) (R := R) j hdj fun k hk => hg k (by omega)
      have lN : ln N.natAbs ≤ 3 := ln3 (by omega)
      by_cases hji : j < i
      · obtain ⟨z1, z2, z3⟩ := hZ.at hn0 hji
        have gj := hg j hji
        have st := muStep (m := ⟨a, b, c, d⟩) oneM (by show 0 < c; omega) ⟨by show -1073741824 ≤ a; omega, by show a ≤ 1073741824; omega⟩ ⟨by show -1073741824 ≤ d; omega, by show d ≤ 1073741824; omega⟩ (by show c ≤ _; omega) z1 (by omega) (Int.dvd_trans (Int.natCast_dvd_natCast.2 z2) hd) (r := R j) gj.1 gj.2 lN
        have pr := prs_rad ⟨a, b, c, d⟩ Z R j
        obtain ⟨x1, x2, x3, x4, x5, x6, x7, x8, x9, x10, x11⟩ := st
        have eN' : N + R j * rad ((Mx.mk a b c d).at (Z j)) = -(3 * T) + radS ⟨a, b, c, d⟩ (prs Z R (j + 1)) := by omega
        clear hdj rb lN
        repeat' ((conv => whnf); first | (refine Ob.mk x2 ?_) | refine Ob.g ?_ | refine WrOb.g ?_ | refine WrOb.u32 ?_ | refine WrOb.u64 ?_ | refine Cases.y ?_ | refine Cases.n ?_ | refine Idx.g rfl ?_ | refine Idx.z rfl ?_ | refine DrawOb.start ?_ | refine TryF.f ?_ | refine TryF.next rfl ?_ | refine TryF.other ?_ | refine TryA.g ?_ | refine TryA.next rfl ?_ | refine TryA.other ?_ | refine TryS.g ?_ | refine TryS.next rfl ?_ | refine TryS.other ?_ | refine TryG.g ?_ | refine TryG.next rfl ?_ | refine TryG.other ?_ | refine TryT.g ?_ | refine TryT.z ?_ | refine EmpOb.mk rfl ?_ | refine Sp.g (x3) ?_ | refine Sp.g (x4) ?_ | refine Sp.g (x5) ?_ | refine Sp.call (x6) (.cons (.refl _) (.cons (.int x1) .nil)) rfl (AvLe.refl _) ?_ | refine Sp.call (x7) (.cons (.refl _) (.cons (.int x1) .nil)) rfl (AvLe.refl _) ?_ | refine Sp.g (x8) ?_ | refine Sp.g (x9) ?_ | refine Sp.g (x10) ?_ | refine Sp.g (x11) ?_)
        exact ⟨(j + 1, _), [], ⟨hji, eN'⟩, by show i - (j + 1) < i - j; omega, Ent.g⟩
      · obtain rfl : j = i := by omega
        rw [← eN]
        have pt := part_sp N (Nat.le_trans lN (by omega))
        repeat' ((conv => whnf); first | refine Ob.g ?_ | refine WrOb.g ?_ | refine WrOb.u32 ?_ | refine WrOb.u64 ?_ | refine Cases.y ?_ | refine Cases.n ?_ | refine Idx.g rfl ?_ | refine Idx.z rfl ?_ | refine DrawOb.start ?_ | refine TryF.f ?_ | refine TryF.next rfl ?_ | refine TryF.other ?_ | refine TryA.g ?_ | refine TryA.next rfl ?_ | refine TryA.other ?_ | refine TryS.g ?_ | refine TryS.next rfl ?_ | refine TryS.other ?_ | refine TryG.g ?_ | refine TryG.next rfl ?_ | refine TryG.other ?_ | refine TryT.g ?_ | refine TryT.z ?_ | refine EmpOb.mk rfl ?_ | refine Sp.g (pt) ?_)
        refine ⟨⟨_, _, rfl, rfl, ?_⟩⟩
        exact AvLe.refl _
end Go.Proofs.Ythfnbpnplbbibaa
