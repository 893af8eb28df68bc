/- The reference in letters: Multiplier. -/
import Derived.Test.YthfnbpnplbbibaaPkRfA
namespace HP
theorem at_bdS {m : Mx} (hm : m.One) (hc : 0 < m.c) (ha : m.a.natAbs ≤ 100000) (hd : m.d.natAbs ≤ 100000) (hcb : m.c ≤ 1500) {z : Int} (hz : 0 < z) (hzc : z ∣ m.c) : (rad (m.at z)).natAbs ≤ 27200000 := by
  obtain ⟨q, hq⟩ := hzc
  have e1 : (m.at z).c = q := by show m.c / z = q; rw [hq, Int.mul_ediv_cancel_left _ (by omega)]
  have q0 : 0 < q := by
    rw [hq] at hc
    exact Int.pos_of_mul_pos_right hc hz
  have qb : q ≤ m.c := by
    rw [hq]
    have : 1 * q ≤ z * q := Int.mul_le_mul_of_nonneg_right (by omega) (by omega)
    omega
  have b := rad_bd (hm.at (d := z) ⟨q, hq⟩) (by rw [e1]; omega)
  rw [e1] at b
  have b1 : q.natAbs * q.natAbs ≤ 1500 * 1500 := Nat.mul_le_mul (by omega) (by omega)
  have b2 : ((m.at z).a + (m.at z).d).natAbs ≤ 200000 := by show (m.a + m.d).natAbs ≤ _; omega
  omega
theorem radS_bdS {m : Mx} (hm : m.One) (hc : 0 < m.c) (ha : m.a.natAbs ≤ 100000) (hd : m.d.natAbs ≤ 100000) (hcb : m.c ≤ 1500) {Z : Nat → Nat} {R : Nat → Int} : ∀ i, (∀ j, j < i → 0 < Z j ∧ (Z j : Int) ∣ m.c) → (∀ j, j < i → -200 ≤ R j ∧ R j ≤ 200) → (radS m (prs Z R i)).natAbs ≤ i * 5440000000
  | 0, _, _ => Nat.zero_le _
  | i + 1, hz, hr => by
    have ih := radS_bdS hm hc ha hd hcb i (fun j hj => hz j (by omega)) fun j hj => hr j (by omega)
    have e := hr i (by omega)
    obtain ⟨z0, z1⟩ := hz i (by omega)
    have b := at_bdS hm hc ha hd hcb (z := Z i) (by omega) z1
    have : (R i * rad (m.at (Z i))).natAbs ≤ 200 * 27200000 := by
      rw [Int.natAbs_mul]
      exact Nat.mul_le_mul (by omega) b
    rw [prs_rad]
    omega
theorem totR_bd {m : Mx} (hm : m.One) (hc : 0 < m.c) (ha : m.a.natAbs ≤ 100000) (hd : m.d.natAbs ≤ 100000) (hcb : m.c ≤ 1500) {Z : Nat → Nat} {R : Nat → Int} (i : Nat) (hi : i ≤ 121) (hz : ∀ j, j < i → 0 < Z j ∧ (Z j : Int) ∣ m.c) (hr : ∀ j, j < i → -200 ≤ R j ∧ R j ≤ 200) : (totR m (prs Z R i)).natAbs ≤ 1500000000000000000 := by
  have b := radS_bdS hm hc ha hd hcb i hz hr
  rw [totR_eq hm hc fun p hp => ?_, Int.natAbs_mul, Int.natAbs_mul]
  · have c2 : m.c.natAbs * m.c.natAbs ≤ 1500 * 1500 := Nat.mul_le_mul (by omega) (by omega)
    have := Nat.mul_le_mul c2 (show (radS m (prs Z R i)).natAbs ≤ 658240000000 by omega)
    omega
  · obtain ⟨j, hj, rfl⟩ := prs_mem hp
    obtain ⟨z1, z2⟩ := hz j hj
    exact ⟨by show (0 : Int) < (Z j : Int); omega, z2⟩
end HP
namespace Go.Proofs.Ythfnbpnplbbibaa
open Go Go.RowKit Go.VG HP
theorem rMult_range (n : Int) (R : Nat → Int) (m : Nat) (a b c d : Int) (h : n < 1 ∨ 120 < n) : Sp CX 37 [int .i64 n, isA R m, mA a b c d] (muErr 2) := by
  by_cases h1 : n < 1
  · refine fn_sp (C := CX) [] [] tysX_ok mixed Try.func37 rfl (by kernel_rfl) Try.ntmps37 rfl rfl ?_
    repeat' ((conv => whnf); first | refine Ob.g ?_ | refine WrOb.g ?_ | refine WrOb.u32 ?_ | refine WrOb.u64 ?_ | refine Cases.y ?_ | refine Cases.n ?_ | refine Idx.g rfl ?_ | refine Idx.z rfl ?_ | refine DrawOb.start ?_ | refine TryF.f ?_ | refine TryF.next rfl ?_ | refine TryF.other ?_ | refine TryA.g ?_ | refine TryA.next rfl ?_ | refine TryA.other ?_ | refine TryS.g ?_ | refine TryS.next rfl ?_ | refine TryS.other ?_ | refine TryG.g ?_ | refine TryG.next rfl ?_ | refine TryG.other ?_ | refine TryT.g ?_ | refine TryT.z ?_ | refine EmpOb.mk rfl ?_)
    refine ⟨⟨_, _, rfl, rfl, ?_⟩⟩
    exact AvLe.refl _
  · have h2 : 120 < n := by omega
    refine fn_sp (C := CX) [] [] tysX_ok mixed Try.func37 rfl (by kernel_rfl) Try.ntmps37 rfl rfl ?_
    repeat' ((conv => whnf); first | refine Ob.g ?_ | refine WrOb.g ?_ | refine WrOb.u32 ?_ | refine WrOb.u64 ?_ | refine Cases.y ?_ | refine Cases.n ?_ | refine Idx.g rfl ?_ | refine Idx.z rfl ?_ | refine DrawOb.start ?_ | refine TryF.f ?_ | refine TryF.next rfl ?_ | refine TryF.other ?_ | refine TryA.g ?_ | refine TryA.next rfl ?_ | refine TryA.other ?_ | refine TryS.g ?_ | refine TryS.next rfl ?_ | refine TryS.other ?_ | refine TryG.g ?_ | refine TryG.next rfl ?_ | refine TryG.other ?_ | refine TryT.g ?_ | refine TryT.z ?_ | refine EmpOb.mk rfl ?_)
    refine ⟨⟨_, _, rfl, rfl, ?_⟩⟩
    exact AvLe.refl _
theorem rMult_shape (n : Nat) (hn0 : 1 ≤ n) (hn : n ≤ 120) (R : Nat → Int) (m : Nat) (a b c d : Int) (h : m ≠ (dvs n).length) : Sp CX 37 [int .i64 n, isA R m, mA a b c d] (muErr 4) := by
  obtain ⟨Z, len, hZ, hl⟩ := zOf (dvs n) 0
  have s := rDivs_sp n hn0 hn Z len ⟨hZ, hl⟩
  rw [← hl] at h
  have h' : ¬ (m : Int) = len := by omega
  refine fn_sp (C := CX) [] [] tysX_ok mixed Try.func37 rfl (by kernel_rfl) Try.ntmps37 rfl rfl ?_
  repeat' ((conv => whnf); first | refine Ob.g ?_ | refine WrOb.g ?_ | refine WrOb.u32 ?_ | refine WrOb.u64 ?_ | refine Cases.y ?_ | refine Cases.n ?_ | refine Idx.g rfl ?_ | refine Idx.z rfl ?_ | refine DrawOb.start ?_ | refine TryF.f ?_ | refine TryF.next rfl ?_ | refine TryF.other ?_ | refine TryA.g ?_ | refine TryA.next rfl ?_ | refine TryA.other ?_ | refine TryS.g ?_ | refine TryS.next rfl ?_ | refine TryS.other ?_ | refine TryG.g ?_ | refine TryG.next rfl ?_ | refine TryG.other ?_ | refine TryT.g ?_ | refine TryT.z ?_ | refine EmpOb.mk rfl ?_ | refine Sp.g (s) ?_)
  refine ⟨⟨_, _, rfl, rfl, ?_⟩⟩
  exact AvLe.refl _
/-- what a step of the reference's loop calls, and its sizes -/
structure RuStep (A D C : Int) (z : Nat) (r t : Int) (F : Int) : Prop where
  o : (z : Int) ≠ 0 ∧ InK .i64 (C.tdiv z)
  fo : Sp CX 50 [int .i64 D, int .i64 (C.tdiv z)] (int .i64 F)
  t : t = r * ((z : Int) * (A + D) * C - 3 * (z : Int) * z * F)
  p1 : -24000000 ≤ (z : Int) * (A + D) ∧ (z : Int) * (A + D) ≤ 24000000
  p2 : -36000000000 ≤ (z : Int) * (A + D) * C ∧ (z : Int) * (A + D) * C ≤ 36000000000
  p3 : -43200 ≤ 3 * (z : Int) * z ∧ 3 * (z : Int) * z ≤ 43200
  p4 : -145800000000000 ≤ 3 * (z : Int) * z * F ∧ 3 * (z : Int) * z * F ≤ 145800000000000
  p5 : -29167200000000000 ≤ r * ((z : Int) * (A + D) * C - 3 * (z : Int) * z * F) ∧ r * ((z : Int) * (A + D) * C - 3 * (z : Int) * z * F) ≤ 29167200000000000
theorem ruStep {m : Mx} (hc : 0 < m.c) (ha : m.a.natAbs ≤ 100000) (hd : m.d.natAbs ≤ 100000) (hcb : m.c ≤ 1500) {z : Nat} (hz : 0 < z) (hz2 : z ≤ 120) (hzc : (z : Int) ∣ m.c) {r : Int} (r1 : -200 ≤ r) (r2 : r ≤ 200) : ∃ F, RuStep m.a m.d m.c z r (totR m [((z : Int), r)]) F := by
  obtain ⟨q, hq⟩ := hzc
  have e1 : m.c / z = q := by rw [hq, Int.mul_ediv_cancel_left _ (by omega)]
  have q0 : 0 < q := by
    have hc' := hc
    rw [hq] at hc'
    exact Int.pos_of_mul_pos_right hc' (by omega)
  have qb : q ≤ m.c := by
    have : 1 * q ≤ z * q := Int.mul_le_mul_of_nonneg_right (by omega) (by omega)
    omega
  have et : m.c.tdiv z = q := by rw [hq, Int.mul_tdiv_cancel_left _ (by omega)]
  obtain ⟨k, rfl⟩ : ∃ k : Nat, q = k := ⟨q.toNat, by omega⟩
  have k0 : 0 < k := by omega
  have fb := fourP_bd (h := (m.d % (k : Int)).toNat) k0 k (Nat.le_refl _)
  have fb2 : k * (k * k) ≤ 1500 * (1500 * 1500) := Nat.mul_le_mul (by omega) (Nat.mul_le_mul (by omega) (by omega))
  have fo := rFour_sp m.d k k0 (by omega) ⟨by omega, by omega⟩
  refine ⟨fourP (m.d % (k : Int)).toNat k k, ?_⟩
  have tt : totR m [((z : Int), r)] = r * ((z : Int) * (m.a + m.d) * m.c - 3 * (z : Int) * z * fourP (m.d % (k : Int)).toNat k k) := by
    show r * ((z : Int) * (m.a + m.d) * m.c - 3 * (z : Int) * z * fourP (m.d % (m.c / (z : Int))).toNat (m.c / (z : Int)).toNat (m.c / (z : Int)).toNat) + 0 = _
    rw [e1, Int.toNat_natCast, Int.add_zero]
  rw [tt]
  generalize fourP (m.d % (k : Int)).toNat k k = F at *
  have p1 := mulbd (x := (z : Int)) (y := m.a + m.d) (X := 120) (Y := 200000) (by omega) (by omega)
  have p2 := mulbd (x := (z : Int) * (m.a + m.d)) (y := m.c) (X := 24000000) (Y := 1500) (by omega) (by omega)
  have p3 := mulbd (x := 3 * (z : Int)) (y := z) (X := 360) (Y := 120) (by omega) (by omega)
  have p4 := mulbd (x := 3 * (z : Int) * z) (y := F) (X := 43200) (Y := 3375000000) (by omega) (by omega)
  have p5 := mulbd (x := r) (y := (z : Int) * (m.a + m.d) * m.c - 3 * (z : Int) * z * F) (X := 200) (Y := 145836000000000) (by omega) (by omega)
  refine ⟨?_, ?_, rfl, by omega, by omega, by omega, by omega, by omega⟩
  · rw [et]
    exact ⟨by omega, by show -9223372036854775808 ≤ (k : Int) ∧ (k : Int) ≤ 9223372036854775807; omega⟩
  · rw [et]
    exact fo
set_option maxHeartbeats 32000000 in
set_option maxRecDepth 20000 in
theorem rMult_ok (n : Nat) (hn0 : 1 ≤ n) (hn : n ≤ 120) (Z : Nat → Nat) (R : Nat → Int) (len : Nat) (hZ : DvZ n Z len) (a b c d : Int) (hR : ∀ i, i < len → I64 (R i)) (hsm : matE a b c d = 0 → SmlE a c d) (r : AV) (hr : MuSpec n Z R len a b c d r) :
    Sp CX 37 [int .i64 n, isA R len, mA a b c d] r := by
  have s := rDivs_sp n hn0 hn Z len hZ
  have hl := hZ.le
  have ck := rCheck_sp a b c d
  refine fn_sp (C := CX) [] [] tysX_ok mixed Try.func37 rfl (by kernel_rfl) Try.ntmps37 rfl hr.cl ?_
  repeat' ((conv => whnf); first | refine Ob.g ?_ | refine WrOb.g ?_ | refine WrOb.u32 ?_ | refine WrOb.u64 ?_ | refine Cases.y ?_ | refine Cases.n ?_ | refine Idx.g rfl ?_ | refine Idx.z rfl ?_ | refine DrawOb.start ?_ | refine TryF.f ?_ | refine TryF.next rfl ?_ | refine TryF.other ?_ | refine TryA.g ?_ | refine TryA.next rfl ?_ | refine TryA.other ?_ | refine TryS.g ?_ | refine TryS.next rfl ?_ | refine TryS.other ?_ | refine TryG.g ?_ | refine TryG.next rfl ?_ | refine TryG.other ?_ | refine TryT.g ?_ | refine TryT.z ?_ | refine EmpOb.mk rfl ?_ | refine Sp.g (s) ?_)
  refine ⟨⟨Nat, fun i => ⟨[(0, int .i64 n), (1, isA R len), (5, .v (.c (.loc 0 0))), (6, .v (.c (.loc 1 0))), (8, .v (.c (.sl 1 Nat (fun z _ => ix z) Z len))), (9, int .i64 (totS (prs Z R i))), (10, int .i64 (wgtS (prs Z R i))), (11, int .i64 i)], [(0, .st [ix a, ix b, ix c, ix d]), (1, .st qZ)], 2⟩, fun i => i ≤ len ∧ ∀ j, j < i → -200 ≤ R j ∧ R j ≤ 200, fun i => len - i, ⟨0, [], ⟨Nat.zero_le _, fun j hj => absurd hj (Nat.not_lt_zero _)⟩, Ent.g⟩, ?_⟩⟩
  rintro i ⟨i1, hg⟩
  clear s
  obtain ⟨t1, t2, w1, w2⟩ := prs_bd (Z := Z) (R := R) i (fun j hj => by have := (hZ.at hn0 (show j < len by omega)).2.2; omega) hg
  by_cases hi : i < len
  · have bR := hR i hi
    obtain ⟨bR1, bR2⟩ := bR
    by_cases hb1 : R i < -200
    · have er : r = muErr 2 := by
        rcases hr with ⟨_, rfl⟩ | ⟨h, _⟩
        · rfl
        · have := h i hi; omega
      subst er
      clear hr ck
      repeat' ((conv => whnf); first | refine Ob.g ?_ | refine WrOb.g ?_ | refine WrOb.u32 ?_ | refine WrOb.u64 ?_ | refine Cases.y ?_ | refine Cases.n ?_ | refine Idx.g rfl ?_ | refine Idx.z rfl ?_ | refine DrawOb.start ?_ | refine TryF.f ?_ | refine TryF.next rfl ?_ | refine TryF.other ?_ | refine TryA.g ?_ | refine TryA.next rfl ?_ | refine TryA.other ?_ | refine TryS.g ?_ | refine TryS.next rfl ?_ | refine TryS.other ?_ | refine TryG.g ?_ | refine TryG.next rfl ?_ | refine TryG.other ?_ | refine TryT.g ?_ | refine TryT.z ?_ | refine EmpOb.mk rfl ?_)
      refine ⟨⟨_, _, rfl, rfl, ?_⟩⟩
      exact AvLe.refl _
    by_cases hb2 : 200 < R i
    · have er : r = muErr 2 := by
        rcases hr with ⟨_, rfl⟩ | ⟨h, _⟩
        · rfl
        · have := h i hi; omega
      subst er
      clear hr ck
      repeat' ((conv => whnf); first | refine Ob.g ?_ | refine WrOb.g ?_ | refine WrOb.u32 ?_ | refine WrOb.u64 ?_ | refine Cases.y ?_ | refine Cases.n ?_ | refine Idx.g rfl ?_ | refine Idx.z rfl ?_ | refine DrawOb.start ?_ | refine TryF.f ?_ | refine TryF.next rfl ?_ | refine TryF.other ?_ | refine TryA.g ?_ | refine TryA.next rfl ?_ | refine TryA.other ?_ | refine TryS.g ?_ | refine TryS.next rfl ?_ | refine TryS.other ?_ | refine TryG.g ?_ | refine TryG.next rfl ?_ | refine TryG.other ?_ | refine TryT.g ?_ | refine TryT.z ?_ | refine EmpOb.mk rfl ?_)
      refine ⟨⟨_, _, rfl, rfl, ?_⟩⟩
      exact AvLe.refl _
    · have e1 := prs_tot Z R i
      have e2 := prs_wgt Z R i
      have zb := hZ.at hn0 hi
      have zr := zr_bd (z := Z i) (r := R i) (by omega) (by omega) (by omega)
      clear hr ck
      repeat' ((conv => whnf); first | refine Ob.g ?_ | refine WrOb.g ?_ | refine WrOb.u32 ?_ | refine WrOb.u64 ?_ | refine Cases.y ?_ | refine Cases.n ?_ | refine Idx.g rfl ?_ | refine Idx.z rfl ?_ | refine DrawOb.start ?_ | refine TryF.f ?_ | refine TryF.next rfl ?_ | refine TryF.other ?_ | refine TryA.g ?_ | refine TryA.next rfl ?_ | refine TryA.other ?_ | refine TryS.g ?_ | refine TryS.next rfl ?_ | refine TryS.other ?_ | refine TryG.g ?_ | refine TryG.next rfl ?_ | refine TryG.other ?_ | refine TryT.g ?_ | refine TryT.z ?_ | refine EmpOb.mk rfl ?_)
      exact ⟨i + 1, [], ⟨hi, fun j hj => by
        by_cases h : j = i
        · rw [h]; omega
        · exact hg j (by omega)⟩, by show len - (i + 1) < len - i; omega, Ent.g⟩
  · obtain rfl : i = len := by omega
    obtain ⟨W, hW⟩ : ∃ W, W = wgtS (prs Z R i) := ⟨_, rfl⟩
    obtain ⟨T, hT⟩ : ∃ T, T = totS (prs Z R i) := ⟨_, rfl⟩
    have hem := tmod0 (totS (prs Z R i)) 2
    have hen := tmod0 c n
    unfold MuSpec at hr
    dsimp only
    rw [← hT] at t1 t2 hem hr ⊢
    rw [← hW] at w1 w2 ⊢
    rcases hr with ⟨⟨j, hj, hb⟩, _⟩ | ⟨_, hr⟩
    · exact absurd (hg j hj) hb
    rcases hr with ⟨ho, rfl⟩ | ⟨ho, hr⟩
    · have em : ¬ T.tmod 2 = 0 := fun h => ho (by have := hem.1 h; omega)
      repeat' ((conv => whnf); first | refine Ob.g ?_ | refine WrOb.g ?_ | refine WrOb.u32 ?_ | refine WrOb.u64 ?_ | refine Cases.y ?_ | refine Cases.n ?_ | refine Idx.g rfl ?_ | refine Idx.z rfl ?_ | refine DrawOb.start ?_ | refine TryF.f ?_ | refine TryF.next rfl ?_ | refine TryF.other ?_ | refine TryA.g ?_ | refine TryA.next rfl ?_ | refine TryA.other ?_ | refine TryS.g ?_ | refine TryS.next rfl ?_ | refine TryS.other ?_ | refine TryG.g ?_ | refine TryG.next rfl ?_ | refine TryG.other ?_ | refine TryT.g ?_ | refine TryT.z ?_ | refine EmpOb.mk rfl ?_)
      refine ⟨⟨_, _, rfl, rfl, ?_⟩⟩
      exact AvLe.refl _
    have em : T.tmod 2 = 0 := hem.2 (by omega)
    rcases hr with ⟨hm, rfl⟩ | ⟨hm, hr⟩
    · generalize matE a b c d = e at *
      repeat' ((conv => whnf); first | refine Ob.g ?_ | refine WrOb.g ?_ | refine WrOb.u32 ?_ | refine WrOb.u64 ?_ | refine Cases.y ?_ | refine Cases.n ?_ | refine Idx.g rfl ?_ | refine Idx.z rfl ?_ | refine DrawOb.start ?_ | refine TryF.f ?_ | refine TryF.next rfl ?_ | refine TryF.other ?_ | refine TryA.g ?_ | refine TryA.next rfl ?_ | refine TryA.other ?_ | refine TryS.g ?_ | refine TryS.next rfl ?_ | refine TryS.other ?_ | refine TryG.g ?_ | refine TryG.next rfl ?_ | refine TryG.other ?_ | refine TryT.g ?_ | refine TryT.z ?_ | refine EmpOb.mk rfl ?_ | refine Sp.g (ck) ?_)
      refine ⟨⟨_, _, rfl, rfl, ?_⟩⟩
      exact AvLe.refl _
    rw [hm] at ck
    rcases hr with ⟨hd, rfl⟩ | ⟨hd, rfl⟩
    · have en : ¬ c.tmod n = 0 := fun h => hd (hen.1 h)
      repeat' ((conv => whnf); first | refine Ob.g ?_ | refine WrOb.g ?_ | refine WrOb.u32 ?_ | refine WrOb.u64 ?_ | refine Cases.y ?_ | refine Cases.n ?_ | refine Idx.g rfl ?_ | refine Idx.z rfl ?_ | refine DrawOb.start ?_ | refine TryF.f ?_ | refine TryF.next rfl ?_ | refine TryF.other ?_ | refine TryA.g ?_ | refine TryA.next rfl ?_ | refine TryA.other ?_ | refine TryS.g ?_ | refine TryS.next rfl ?_ | refine TryS.other ?_ | refine TryG.g ?_ | refine TryG.next rfl ?_ | refine TryG.other ?_ | refine TryT.g ?_ | refine TryT.z ?_ | refine EmpOb.mk rfl ?_ | refine Sp.g (ck) ?_)
      refine ⟨⟨_, _, rfl, rfl, ?_⟩⟩
      exact AvLe.refl _
    have en : c.tmod n = 0 := hen.2 hd
    obtain ⟨hf, h1⟩ := mat_ok hm
    have one : (Mx.mk a b c d).One := h1
    have mn := rMinus_sp a b c d hf
    obtain ⟨⟨s1, s2⟩, ⟨s3, s4⟩, ⟨s5, s6⟩⟩ := hsm hm
    obtain ⟨⟨a1, a2⟩, ⟨b1, b2⟩, ⟨c1, c2⟩, ⟨d1, d2⟩⟩ := hf
    have hdv : ∀ p ∈ prs Z R i, 0 < p.1 ∧ p.1 ∣ (Mx.mk a b c d).c := fun p hp => by
      obtain ⟨j, hj, rfl⟩ := prs_mem hp
      obtain ⟨z1, z2, _⟩ := hZ.at hn0 hj
      exact ⟨by show (0 : Int) < (Z j : Int); omega, Int.dvd_trans (Int.natCast_dvd_natCast.2 z2) hd⟩
    clear hem hen hm ho
    by_cases hc0 : c = 0
    · have mz := mulV_zero (m := ⟨a, b, c, d⟩) hc0 (l := prs Z R i)
      rw [← hT, ← hW] at mz
      have mz' : mulV ⟨a, b, c, d⟩ (prs Z R i) = Rat.divInt ((W * (b * d) + if d < 0 then 6 * T else 0) % 24) 24 := mz
      have had : a * d = 1 := by rw [hc0, Int.mul_zero, Int.sub_zero] at h1; exact h1
      unfold mulO
      rw [mz']
      clear mz mz' one hdv h1
      rcases unit_right had with h | h
      · have eq : (W * (b * d) + if d < 0 then 6 * T else 0) = W * b + 0 := by rw [if_neg (by omega), h, Int.mul_one]
        rw [eq, ← tmod24]
        have tb := tmod_emodP b 24 (by omega)
        have mb := mulbd (x := b.tmod 24) (y := W) (X := 24) (Y := 2904000) (by omega) (by omega)
        have m1 := bmod_sp (b.tmod 24 * W + 0) 24 (by omega) (by omega) ⟨by omega, by omega⟩
        have e1 := Int.emod_nonneg (b.tmod 24 * W + 0) (show (24 : Int) ≠ 0 by omega)
        have e2 := Int.emod_lt_of_pos (b.tmod 24 * W + 0) (show (0 : Int) < 24 by omega)
        have fr := Frac_sp ((b.tmod 24 * W + 0) % 24) 24 (by omega) (by omega) (by omega) (by omega)
        clear tb e1 e2 eq
        repeat' ((conv => whnf); first | refine Ob.g ?_ | refine WrOb.g ?_ | refine WrOb.u32 ?_ | refine WrOb.u64 ?_ | refine Cases.y ?_ | refine Cases.n ?_ | refine Idx.g rfl ?_ | refine Idx.z rfl ?_ | refine DrawOb.start ?_ | refine TryF.f ?_ | refine TryF.next rfl ?_ | refine TryF.other ?_ | refine TryA.g ?_ | refine TryA.next rfl ?_ | refine TryA.other ?_ | refine TryS.g ?_ | refine TryS.next rfl ?_ | refine TryS.other ?_ | refine TryG.g ?_ | refine TryG.next rfl ?_ | refine TryG.other ?_ | refine TryT.g ?_ | refine TryT.z ?_ | refine EmpOb.mk rfl ?_ | refine Sp.g (ck) ?_ | refine Sp.g (m1) ?_ | refine Sp.g (fr) ?_)
        refine ⟨⟨_, _, rfl, rfl, ?_⟩⟩
        exact AvLe.refl _
      · have eq : (W * (b * d) + if d < 0 then 6 * T else 0) = W * (-b) + 6 * T := by rw [if_pos (by omega), h, Int.mul_neg_one]
        rw [eq, ← tmod24]
        have tb := tmod_emodP (-b) 24 (by omega)
        have mb := mulbd (x := (-b).tmod 24) (y := W) (X := 24) (Y := 2904000) (by omega) (by omega)
        have m1 := bmod_sp ((-b).tmod 24 * W + 6 * T) 24 (by omega) (by omega) ⟨by omega, by omega⟩
        have e1 := Int.emod_nonneg ((-b).tmod 24 * W + 6 * T) (show (24 : Int) ≠ 0 by omega)
        have e2 := Int.emod_lt_of_pos ((-b).tmod 24 * W + 6 * T) (show (0 : Int) < 24 by omega)
        have fr := Frac_sp (((-b).tmod 24 * W + 6 * T) % 24) 24 (by omega) (by omega) (by omega) (by omega)
        clear tb e1 e2 eq
        repeat' ((conv => whnf); first | refine Ob.g ?_ | refine WrOb.g ?_ | refine WrOb.u32 ?_ | refine WrOb.u64 ?_ | refine Cases.y ?_ | refine Cases.n ?_ | refine Idx.g rfl ?_ | refine Idx.z rfl ?_ | refine DrawOb.start ?_ | refine TryF.f ?_ | refine TryF.next rfl ?_ | refine TryF.other ?_ | refine TryA.g ?_ | refine TryA.next rfl ?_ | refine TryA.other ?_ | refine TryS.g ?_ | refine TryS.next rfl ?_ | refine TryS.other ?_ | refine TryG.g ?_ | refine TryG.next rfl ?_ | refine TryG.other ?_ | refine TryT.g ?_ | refine TryT.z ?_ | refine EmpOb.mk rfl ?_ | refine Sp.g (ck) ?_ | refine Sp.g (mn) ?_ | refine Sp.g (m1) ?_ | refine Sp.g (fr) ?_)
        refine ⟨⟨_, _, rfl, rfl, ?_⟩⟩
        exact AvLe.refl _
    have hlen : i ≤ 121 := by omega
    by_cases hneg : c < 0
    · have oneM : (Mx.mk (-a) (-b) (-c) (-d)).One := one.neg
      have cp : 0 < (-c) := by omega
      have pv : mulV ⟨a, b, c, d⟩ (prs Z R i) = Rat.divInt (((6 * T - 3 * T) * (-c) * (-c) + totR ⟨(-a), (-b), (-c), (-d)⟩ (prs Z R i)) % (24 * (-c) * (-c))) (24 * (-c) * (-c)) := by
        have h := mulV_neg (m := ⟨a, b, c, d⟩) one (show c < 0 by omega) hdv
        rw [← hT] at h
        exact h
      unfold mulO
      rw [pv]
      have q1 := mulbd (x := 6 * T - 3 * T) (y := (-c)) (X := 217800) (Y := 1500) (by omega) (by omega)
      have q2 := mulbd (x := (6 * T - 3 * T) * (-c)) (y := (-c)) (X := 326700000) (Y := 1500) (by omega) (by omega)
      have q3 := mulbd (x := 24 * (-c)) (y := (-c)) (X := 36000) (Y := 1500) (by omega) (by omega)
      have q4 : 0 < 24 * (-c) * (-c) := Int.mul_pos (by omega) cp
      clear pv hdv h1 hW w1 w2
      repeat' ((conv => whnf); first | refine Ob.g ?_ | refine WrOb.g ?_ | refine WrOb.u32 ?_ | refine WrOb.u64 ?_ | refine Cases.y ?_ | refine Cases.n ?_ | refine Idx.g rfl ?_ | refine Idx.z rfl ?_ | refine DrawOb.start ?_ | refine TryF.f ?_ | refine TryF.next rfl ?_ | refine TryF.other ?_ | refine TryA.g ?_ | refine TryA.next rfl ?_ | refine TryA.other ?_ | refine TryS.g ?_ | refine TryS.next rfl ?_ | refine TryS.other ?_ | refine TryG.g ?_ | refine TryG.next rfl ?_ | refine TryG.other ?_ | refine TryT.g ?_ | refine TryT.z ?_ | refine EmpOb.mk rfl ?_ | refine Sp.g (ck) ?_ | refine Sp.g (mn) ?_)
      refine ⟨⟨Nat × Int, fun (j, N) => ⟨[(1, isA R i), (5, .v (.c (.loc 0 0))), (6, .v (.c (.loc 1 0))), (8, .v (.c (.sl 1 Nat (fun z _ => ix z) Z i))), (14, int .i64 (-c)), (15, int .i64 N), (16, int .i64 j)], [(0, .st [ix (-a), ix (-b), ix (-c), ix (-d)]), (1, .st qZ)], 2⟩, fun (j, N) => j ≤ i ∧ N = (6 * T - 3 * T) * (-c) * (-c) + totR ⟨(-a), (-b), (-c), (-d)⟩ (prs Z R j), fun (j, _) => i - j, ⟨(0, (6 * T - 3 * T) * (-c) * (-c)), [], ⟨Nat.zero_le _, (Int.add_zero _).symm⟩, Ent.g⟩, ?_⟩⟩
      rintro ⟨j, N⟩ ⟨hj, eN⟩
      clear ck mn
      have hdj : ∀ k, k < j → 0 < Z k ∧ (Z k : Int) ∣ (Mx.mk (-a) (-b) (-c) (-d)).c := fun k hk => by
        obtain ⟨z1, z2, _⟩ := hZ.at hn0 (show k < i by omega)
        exact ⟨z1, Int.dvd_trans (Int.natCast_dvd_natCast.2 z2) (Int.dvd_neg.2 hd)⟩
      have rb := totR_bd (m := ⟨(-a), (-b), (-c), (-d)⟩) oneM cp (by show ((-a)).natAbs ≤ _; omega) (by show ((-d)).natAbs ≤ _; omega) (by show (-c) ≤ _; omega) (R := R) j (by omega) hdj fun k hk => hg k (by omega)
      have nb : -2000000000000000000 ≤ N ∧ N ≤ 2000000000000000000 := by omega
      by_cases hji : j < i
      · obtain ⟨z1, z2, z3⟩ := hZ.at hn0 hji
        have gj := hg j hji
        obtain ⟨F, st⟩ := ruStep (m := ⟨(-a), (-b), (-c), (-d)⟩) cp (by show ((-a)).natAbs ≤ _; omega) (by show ((-d)).natAbs ≤ _; omega) (by show (-c) ≤ _; omega) z1 (by omega) (Int.dvd_trans (Int.natCast_dvd_natCast.2 z2) (Int.dvd_neg.2 hd)) (r := R j) gj.1 gj.2
        have pr := prs_totR ⟨(-a), (-b), (-c), (-d)⟩ Z R j
        obtain ⟨x1, x2, x3, x4, x5, x6, x7, x8⟩ := st
        have eN' : N + R j * ((Z j : Int) * ((-a) + (-d)) * (-c) - 3 * (Z j : Int) * Z j * F) = (6 * T - 3 * T) * (-c) * (-c) + totR ⟨(-a), (-b), (-c), (-d)⟩ (prs Z R (j + 1)) := by
          have x3' : totR ⟨(-a), (-b), (-c), (-d)⟩ [((Z j : Int), R j)] = R j * ((Z j : Int) * ((-a) + (-d)) * (-c) - 3 * (Z j : Int) * Z j * F) := x3
          omega
        dsimp only at x1 x2 x4 x5 x6 x7 x8
        clear hdj rb pr x3 eN q1 q2 q3 q4
        repeat' ((conv => whnf); first | (refine Ob.mk x1 ?_) | refine Ob.g ?_ | refine WrOb.g ?_ | refine WrOb.u32 ?_ | refine WrOb.u64 ?_ | refine Cases.y ?_ | refine Cases.n ?_ | refine Idx.g rfl ?_ | refine Idx.z rfl ?_ | refine DrawOb.start ?_ | refine TryF.f ?_ | refine TryF.next rfl ?_ | refine TryF.other ?_ | refine TryA.g ?_ | refine TryA.next rfl ?_ | refine TryA.other ?_ | refine TryS.g ?_ | refine TryS.next rfl ?_ | refine TryS.other ?_ | refine TryG.g ?_ | refine TryG.next rfl ?_ | refine TryG.other ?_ | refine TryT.g ?_ | refine TryT.z ?_ | refine EmpOb.mk rfl ?_ | refine Sp.g (x2) ?_)
        exact ⟨(j + 1, _), [], ⟨hji, eN'⟩, by show i - (j + 1) < i - j; omega, Ent.g⟩
      · obtain rfl : j = i := by omega
        rw [← eN]
        have m1 := bmod_sp N (24 * (-c) * (-c)) q4 (by omega) ⟨by omega, by omega⟩
        have e1 := Int.emod_nonneg N (show 24 * (-c) * (-c) ≠ 0 by omega)
        have e2 := Int.emod_lt_of_pos N q4
        have fr := Frac_sp (N % (24 * (-c) * (-c))) (24 * (-c) * (-c)) q4 (by omega) (by omega) (by omega)
        clear e1 e2 rb eN
        repeat' ((conv => whnf); first | refine Ob.g ?_ | refine WrOb.g ?_ | refine WrOb.u32 ?_ | refine WrOb.u64 ?_ | refine Cases.y ?_ | refine Cases.n ?_ | refine Idx.g rfl ?_ | refine Idx.z rfl ?_ | refine DrawOb.start ?_ | refine TryF.f ?_ | refine TryF.next rfl ?_ | refine TryF.other ?_ | refine TryA.g ?_ | refine TryA.next rfl ?_ | refine TryA.other ?_ | refine TryS.g ?_ | refine TryS.next rfl ?_ | refine TryS.other ?_ | refine TryG.g ?_ | refine TryG.next rfl ?_ | refine TryG.other ?_ | refine TryT.g ?_ | refine TryT.z ?_ | refine EmpOb.mk rfl ?_ | refine Sp.g (m1) ?_ | refine Sp.g (fr) ?_)
        refine ⟨⟨_, _, rfl, rfl, ?_⟩⟩
        exact AvLe.refl _
    · have oneM : (Mx.mk a b c d).One := one
      have cp : 0 < c := by omega
      have pv : mulV ⟨a, b, c, d⟩ (prs Z R i) = Rat.divInt (((0 - 3 * T) * c * c + totR ⟨a, b, c, d⟩ (prs Z R i)) % (24 * c * c)) (24 * c * c) := by
        have h := mulV_pos (m := ⟨a, b, c, d⟩) one (show 0 < c by omega) hdv
        rw [← hT] at h
        exact h
      unfold mulO
      rw [pv]
      have q1 := mulbd (x := 0 - 3 * T) (y := c) (X := 217800) (Y := 1500) (by omega) (by omega)
      have q2 := mulbd (x := (0 - 3 * T) * c) (y := c) (X := 326700000) (Y := 1500) (by omega) (by omega)
      have q3 := mulbd (x := 24 * c) (y := c) (X := 36000) (Y := 1500) (by omega) (by omega)
      have q4 : 0 < 24 * c * c := Int.mul_pos (by omega) cp
      clear pv hdv h1 hW w1 w2
      repeat' ((conv => whnf); first | refine Ob.g ?_ | refine WrOb.g ?_ | refine WrOb.u32 ?_ | refine WrOb.u64 ?_ | refine Cases.y ?_ | refine Cases.n ?_ | refine Idx.g rfl ?_ | refine Idx.z rfl ?_ | refine DrawOb.start ?_ | refine TryF.f ?_ | refine TryF.next rfl ?_ | refine TryF.other ?_ | refine TryA.g ?_ | refine TryA.next rfl ?_ | refine TryA.other ?_ | refine TryS.g ?_ | refine TryS.next rfl ?_ | refine TryS.other ?_ | refine TryG.g ?_ | refine TryG.next rfl ?_ | refine TryG.other ?_ | refine TryT.g ?_ | refine TryT.z ?_ | refine EmpOb.mk rfl ?_ | refine Sp.g (ck) ?_ | refine Sp.g (mn) ?_)
      refine ⟨⟨Nat × Int, fun (j, N) => ⟨[(1, isA R i), (5, .v (.c (.loc 0 0))), (6, .v (.c (.loc 1 0))), (8, .v (.c (.sl 1 Nat (fun z _ => ix z) Z i))), (14, int .i64 c), (15, int .i64 N), (16, int .i64 j)], [(0, .st [ix a, ix b, ix c, ix d]), (1, .st qZ)], 2⟩, fun (j, N) => j ≤ i ∧ N = (0 - 3 * T) * c * c + totR ⟨a, b, c, d⟩ (prs Z R j), fun (j, _) => i - j, ⟨(0, (0 - 3 * T) * c * c), [], ⟨Nat.zero_le _, (Int.add_zero _).symm⟩, Ent.g⟩, ?_⟩⟩
      rintro ⟨j, N⟩ ⟨hj, eN⟩
      clear ck mn
      have hdj : ∀ k, k < j → 0 < Z k ∧ (Z k : Int) ∣ (Mx.mk a b c d).c := fun k hk => by
        obtain ⟨z1, z2, _⟩ := hZ.at hn0 (show k < i by omega)
        exact ⟨z1, Int.dvd_trans (Int.natCast_dvd_natCast.2 z2) hd⟩
      have rb := totR_bd (m := ⟨a, b, c, d⟩) oneM cp (by show (a).natAbs ≤ _; omega) (by show (d).natAbs ≤ _; omega) (by show c ≤ _; omega) (R := R) j (by omega) hdj fun k hk => hg k (by omega)
      have nb : -2000000000000000000 ≤ N ∧ N ≤ 2000000000000000000 := by omega
      by_cases hji : j < i
      · obtain ⟨z1, z2, z3⟩ := hZ.at hn0 hji
        have gj := hg j hji
        obtain ⟨F, st⟩ := ruStep (m := ⟨a, b, c, d⟩) cp (by show (a).natAbs ≤ _; omega) (by show (d).natAbs ≤ _; omega) (by show c ≤ _; omega) z1 (by omega) (Int.dvd_trans (Int.natCast_dvd_natCast.2 z2) hd) (r := R j) gj.1 gj.2
        have pr := prs_totR ⟨a, b, c, d⟩ Z R j
        obtain ⟨x1, x2, x3, x4, x5, x6, x7, x8⟩ := st
        have eN' : N + R j * ((Z j : Int) * (a + d) * c - 3 * (Z j : Int) * Z j * F) = (0 - 3 * T) * c * c + totR ⟨a, b, c, d⟩ (prs Z R (j + 1)) := by
          have x3' : totR ⟨a, b, c, d⟩ [((Z j : Int), R j)] = R j * ((Z j : Int) * (a + d) * c - 3 * (Z j : Int) * Z j * F) := x3
          omega
        dsimp only at x1 x2 x4 x5 x6 x7 x8
        clear hdj rb pr x3 eN q1 q2 q3 q4
        repeat' ((conv => whnf); first | (refine Ob.mk x1 ?_) | refine Ob.g ?_ | refine WrOb.g ?_ | refine WrOb.u32 ?_ | refine WrOb.u64 ?_ | refine Cases.y ?_ | refine Cases.n ?_ | refine Idx.g rfl ?_ | refine Idx.z rfl ?_ | refine DrawOb.start ?_ | refine TryF.f ?_ | refine TryF.next rfl ?_ | refine TryF.other ?_ | refine TryA.g ?_ | refine TryA.next rfl ?_ | refine TryA.other ?_ | refine TryS.g ?_ | refine TryS.next rfl ?_ | refine TryS.other ?_ | refine TryG.g ?_ | refine TryG.next rfl ?_ | refine TryG.other ?_ | refine TryT.g ?_ | refine TryT.z ?_ | refine EmpOb.mk rfl ?_ | refine Sp.g (x2) ?_)
        exact ⟨(j + 1, _), [], ⟨hji, eN'⟩, by show i - (j + 1) < i - j; omega, Ent.g⟩
      · obtain rfl : j = i := by omega
        rw [← eN]
        have m1 := bmod_sp N (24 * c * c) q4 (by omega) ⟨by omega, by omega⟩
        have e1 := Int.emod_nonneg N (show 24 * c * c ≠ 0 by omega)
        have e2 := Int.emod_lt_of_pos N q4
        have fr := Frac_sp (N % (24 * c * c)) (24 * c * c) q4 (by omega) (by omega) (by omega)
        clear e1 e2 rb eN
        repeat' ((conv => whnf); first | refine Ob.g ?_ | refine WrOb.g ?_ | refine WrOb.u32 ?_ | refine WrOb.u64 ?_ | refine Cases.y ?_ | refine Cases.n ?_ | refine Idx.g rfl ?_ | refine Idx.z rfl ?_ | refine DrawOb.start ?_ | refine TryF.f ?_ | refine TryF.next rfl ?_ | refine TryF.other ?_ | refine TryA.g ?_ | refine TryA.next rfl ?_ | refine TryA.other ?_ | refine TryS.g ?_ | refine TryS.next rfl ?_ | refine TryS.other ?_ | refine TryG.g ?_ | refine TryG.next rfl ?_ | refine TryG.other ?_ | refine TryT.g ?_ | refine TryT.z ?_ | refine EmpOb.mk rfl ?_ | refine Sp.g (m1) ?_ | refine Sp.g (fr) ?_)
        refine ⟨⟨_, _, rfl, rfl, ?_⟩⟩
        exact AvLe.refl _
end Go.Proofs.Ythfnbpnplbbibaa
