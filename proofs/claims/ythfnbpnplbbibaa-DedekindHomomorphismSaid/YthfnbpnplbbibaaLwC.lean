/- The laws of Dedekind sums in letters: Phi, Cocycle, Homomorphism. -/
import Derived.Test.YthfnbpnplbbibaaPkSlB
namespace Go.Proofs.Ythfnbpnplbbibaa
open Go Go.RowKit Go.VG HP
theorem law_phi (a b c d : Int) : Sp CX 7 [mA a b c d] (bool true) := by
  have aw := daw_sp
  have ck := rCheck_sp a b c d
  by_cases hE : matE a b c d = 0
  · have s := Phi_ok a b c d hE
    rw [hE] at ck
    have sm := Small_sp a b c d
    by_cases hs : SmlE a c d
    · rw [decide_eq_true hs] at sm
      have r := rPhi_sp a b c d hE hs
      obtain ⟨hf, h1⟩ := mat_ok hE
      have lr : ln (rad ⟨a, b, c, d⟩).natAbs ≤ 1000000 := by
        by_cases hc : c = 0
        · rw [rad_zero (x := ⟨a, b, c, d⟩) hc]
          have := pbd hf.2.1 hf.2.2.2
          exact Nat.le_trans (ln_two (by show (b * d).natAbs < _; omega)) (by omega)
        · have rb : (rad ⟨a, b, c, d⟩).natAbs ≤ (a + d).natAbs + 12 * (c.natAbs * c.natAbs) := rad_bd (m := ⟨a, b, c, d⟩) h1 hc
          obtain ⟨⟨x1, x2⟩, ⟨x3, x4⟩, ⟨x5, x6⟩⟩ := hs
          have kk : c.natAbs * c.natAbs ≤ 1500 * 1500 := Nat.mul_le_mul (by omega) (by omega)
          exact Nat.le_trans (ln_two (by omega)) (by omega)
      have q := SameInt_sp (rad ⟨a, b, c, d⟩) lr
      generalize rad ⟨a, b, c, d⟩ = X at *
      refine fn_sp (C := CX) [] [] tysX_ok mixed Try.func7 rfl (by kernel_rfl) Try.ntmps7 rfl rfl ?_
      repeat' ((conv => whnf); first | refine Ob.g ?_ | refine WrOb.g ?_ | refine WrOb.u32 ?_ | refine WrOb.u64 ?_ | refine Cases.y ?_ | refine Cases.n ?_ | refine Idx.g rfl ?_ | refine Idx.z rfl ?_ | refine DrawOb.start ?_ | refine TryF.f ?_ | refine TryF.next rfl ?_ | refine TryF.other ?_ | refine TryA.g ?_ | refine TryA.next rfl ?_ | refine TryA.other ?_ | refine TryS.g ?_ | refine TryS.next rfl ?_ | refine TryS.other ?_ | refine TryG.g ?_ | refine TryG.next rfl ?_ | refine TryG.other ?_ | refine TryT.g ?_ | refine Sp.g (aw) ?_ | refine Sp.g (s) ?_ | refine Sp.g (ck) ?_ | refine Sp.g (sm) ?_ | refine Sp.g (r) ?_ | refine Sp.g (q) ?_)
      refine ⟨⟨_, _, rfl, rfl, ?_⟩⟩
      exact AvLe.refl _
    · rw [decide_eq_false hs] at sm
      generalize rad ⟨a, b, c, d⟩ = X at *
      refine fn_sp (C := CX) [] [] tysX_ok mixed Try.func7 rfl (by kernel_rfl) Try.ntmps7 rfl rfl ?_
      repeat' ((conv => whnf); first | refine Ob.g ?_ | refine WrOb.g ?_ | refine WrOb.u32 ?_ | refine WrOb.u64 ?_ | refine Cases.y ?_ | refine Cases.n ?_ | refine Idx.g rfl ?_ | refine Idx.z rfl ?_ | refine DrawOb.start ?_ | refine TryF.f ?_ | refine TryF.next rfl ?_ | refine TryF.other ?_ | refine TryA.g ?_ | refine TryA.next rfl ?_ | refine TryA.other ?_ | refine TryS.g ?_ | refine TryS.next rfl ?_ | refine TryS.other ?_ | refine TryG.g ?_ | refine TryG.next rfl ?_ | refine TryG.other ?_ | refine TryT.g ?_ | refine Sp.g (aw) ?_ | refine Sp.g (s) ?_ | refine Sp.g (ck) ?_ | refine Sp.g (sm) ?_)
      refine ⟨⟨_, _, rfl, rfl, ?_⟩⟩
      exact AvLe.refl _
  · have s := Phi_bad a b c d hE
    have z := sameI0
    generalize matE a b c d = e at *
    refine fn_sp (C := CX) [] [] tysX_ok mixed Try.func7 rfl (by kernel_rfl) Try.ntmps7 rfl rfl ?_
    repeat' ((conv => whnf); first | refine Ob.g ?_ | refine WrOb.g ?_ | refine WrOb.u32 ?_ | refine WrOb.u64 ?_ | refine Cases.y ?_ | refine Cases.n ?_ | refine Idx.g rfl ?_ | refine Idx.z rfl ?_ | refine DrawOb.start ?_ | refine TryF.f ?_ | refine TryF.next rfl ?_ | refine TryF.other ?_ | refine TryA.g ?_ | refine TryA.next rfl ?_ | refine TryA.other ?_ | refine TryS.g ?_ | refine TryS.next rfl ?_ | refine TryS.other ?_ | refine TryG.g ?_ | refine TryG.next rfl ?_ | refine TryG.other ?_ | refine TryT.g ?_ | refine Sp.g (aw) ?_ | refine Sp.g (s) ?_ | refine Sp.g (ck) ?_ | refine Sp.g (z) ?_)
    refine ⟨⟨_, _, rfl, rfl, ?_⟩⟩
    exact AvLe.refl _
/-- Phi, whatever the matrix -/
theorem Phi_gen (a b c d : Int) : ∃ z e, (e = 0 ↔ matE a b c d = 0) ∧ Sp CX 31 [mA a b c d] (.tup [zV z, .c (ix e)]) := by
  by_cases hE : matE a b c d = 0
  · exact ⟨_, 0, ⟨fun _ => hE, fun _ => rfl⟩, Phi_ok a b c d hE⟩
  · refine ⟨0, matE a b c d, Iff.rfl, (Phi_bad a b c d hE).weak (.tup (.cons ?_ (.cons (.refl _) .nil))) rfl⟩
    exact .agg (.cons (.bool rfl) (.cons .nil .nil))
theorem MMul_gen (a b c d e f g h : Int) : ∃ p q r s t, (t = 0 → FitE a b c d ∧ FitE e f g h ∧ FitE (a * e + b * g) (a * f + b * h) (c * e + d * g) (c * f + d * h)) ∧ Sp CX 38 [mA a b c d, mA e f g h] (.tup [.agg [ix p, ix q, ix r, ix s], .c (ix t)]) := by
  by_cases h1 : FitE a b c d ∧ FitE e f g h
  · by_cases h2 : FitE (a * e + b * g) (a * f + b * h) (c * e + d * g) (c * f + d * h)
    · exact ⟨_, _, _, _, 0, fun _ => ⟨h1.1, h1.2, h2⟩, MMul_ok a b c d e f g h h1.1 h1.2 h2⟩
    · exact ⟨0, 0, 0, 0, 7, fun x => (by omega), MMul_big a b c d e f g h h1.1 h1.2 h2⟩
  · exact ⟨0, 0, 0, 0, 2, fun x => (by omega), MMul_no a b c d e f g h h1⟩
theorem det_mul {a b c d e f g h : Int} (h1 : a * d - b * c = 1) (h2 : e * h - f * g = 1) : (a * e + b * g) * (c * f + d * h) - (a * f + b * h) * (c * e + d * g) = 1 :=
  Mx.One.mul (x := ⟨a, b, c, d⟩) (y := ⟨e, f, g, h⟩) h1 h2
theorem matE_ok {a b c d : Int} (hf : FitE a b c d) (h : a * d - b * c = 1) : matE a b c d = 0 := by
  unfold matE
  rw [if_pos hf, if_pos h]
theorem rad_ln {a b c d : Int} (hE : matE a b c d = 0) : ln (rad ⟨a, b, c, d⟩).natAbs ≤ 3 := by
  obtain ⟨hf, h1⟩ := mat_ok hE
  by_cases hc : c = 0
  · rw [rad_zero (x := ⟨a, b, c, d⟩) hc]
    have := pbd hf.2.1 hf.2.2.2
    exact Nat.le_trans (ln_two (by show (b * d).natAbs < _; omega)) (by omega)
  · have rb : (rad ⟨a, b, c, d⟩).natAbs ≤ (a + d).natAbs + 12 * (c.natAbs * c.natAbs) := rad_bd (m := ⟨a, b, c, d⟩) h1 hc
    obtain ⟨⟨x1, x2⟩, _, ⟨x3, x4⟩, ⟨x5, x6⟩⟩ := hf
    have kk : c.natAbs * c.natAbs ≤ 1073741824 * 1073741824 := Nat.mul_le_mul (by omega) (by omega)
    exact ln3 (by omega)
theorem sign_bd (c : Int) : -1 ≤ c.sign ∧ c.sign ≤ 1 := by rcases sgn_tri c with ⟨e, _⟩ | ⟨e, _⟩ | ⟨e, _⟩ <;> omega
set_option maxHeartbeats 8000000 in
theorem law_cocycle (a b c d e f g h : Int) : Sp CX 9 [mA a b c d, mA e f g h] (bool true) := by
  have aw := daw_sp
  by_cases hk : matE a b c d = 0 ∧ matE e f g h = 0 ∧ FitE (a * e + b * g) (a * f + b * h) (c * e + d * g) (c * f + d * h)
  · obtain ⟨k1, k2, k3⟩ := hk
    obtain ⟨f1, d1⟩ := mat_ok k1
    obtain ⟨f2, d2⟩ := mat_ok k2
    have k4 := matE_ok k3 (det_mul d1 d2)
    have s1 := Phi_ok a b c d k1
    have s2 := Phi_ok e f g h k2
    have s3 := MMul_ok a b c d e f g h f1 f2 k3
    have s4 := Phi_ok _ _ _ _ k4
    have l1 := rad_ln k1
    have l2 := rad_ln k2
    have l4 := rad_ln k4
    have g1 := lsign_sp c
    have g2 := lsign_sp g
    have g3 := lsign_sp (c * e + d * g)
    have b1 := sign_bd c
    have b2 := sign_bd g
    have b3 := sign_bd (c * e + d * g)
    have coc := rad_coc (x := ⟨a, b, c, d⟩) d1 _ ⟨e, f, g, h⟩ (Nat.le_refl _) d2
    have coc' : rad ⟨a * e + b * g, a * f + b * h, c * e + d * g, c * f + d * h⟩ = rad ⟨a, b, c, d⟩ + rad ⟨e, f, g, h⟩ - 3 * (c.sign * g.sign * (c * e + d * g).sign) := coc
    generalize rad ⟨a, b, c, d⟩ = X at *
    generalize rad ⟨e, f, g, h⟩ = Y at *
    generalize rad ⟨a * e + b * g, a * f + b * h, c * e + d * g, c * f + d * h⟩ = W at *
    generalize hsx : c.sign = sx at *
    generalize hsy : g.sign = sy at *
    generalize hsz : (c * e + d * g).sign = sz at *
    have p1 := mulbd (x := 3 * sx) (y := sy) (X := 3) (Y := 1) (by omega) (by omega)
    have p2 := mulbd (x := 3 * sx * sy) (y := sz) (X := 3) (Y := 1) (by omega) (by omega)
    have ew : X + Y - 3 * sx * sy * sz = W := by rw [coc', Int.mul_assoc 3, Int.mul_assoc 3, Int.mul_assoc sx]
    have ad := Add_sp X Y (by omega) (by omega)
    have la : ln (X + Y).natAbs ≤ 4 := by
      have h := ln_mono (Int.natAbs_add_le X Y)
      have := ln_add X.natAbs Y.natAbs
      omega
    have o := Of_sp (3 * sx * sy * sz) (by omega) (by omega)
    have su := Sub_sp (X + Y) (3 * sx * sy * sz) (by omega) (Nat.le_trans (ln64 (by omega) (by omega)) (by omega))
    rw [ew] at su
    have q := SameInt_sp W (by omega)
    clear coc coc' ew hsx hsy hsz l1 l2 l4 la d1 d2 f1 f2 k1 k2 k3 k4
    refine fn_sp (C := CX) [] [] tysX_ok mixed Try.func9 rfl (by kernel_rfl) Try.ntmps9 rfl rfl ?_
    repeat' ((conv => whnf); first | refine Ob.g ?_ | refine WrOb.g ?_ | refine WrOb.u32 ?_ | refine WrOb.u64 ?_ | refine Cases.y ?_ | refine Cases.n ?_ | refine Idx.g rfl ?_ | refine Idx.z rfl ?_ | refine DrawOb.start ?_ | refine TryF.f ?_ | refine TryF.next rfl ?_ | refine TryF.other ?_ | refine TryA.g ?_ | refine TryA.next rfl ?_ | refine TryA.other ?_ | refine TryS.g ?_ | refine TryS.next rfl ?_ | refine TryS.other ?_ | refine TryG.g ?_ | refine TryG.next rfl ?_ | refine TryG.other ?_ | refine TryT.g ?_ | refine Sp.g (aw) ?_ | refine Sp.g (s1) ?_ | refine Sp.g (s2) ?_ | refine Sp.g (s3) ?_ | refine Sp.g (s4) ?_ | refine Sp.g (g1) ?_ | refine Sp.g (g2) ?_ | refine Sp.g (g3) ?_ | refine Sp.g (ad) ?_ | refine Sp.g (o) ?_ | refine Sp.g (su) ?_ | refine Sp.g (q) ?_)
    refine ⟨⟨_, _, rfl, rfl, ?_⟩⟩
    exact AvLe.refl _
  · obtain ⟨z1, e1, i1, s1⟩ := Phi_gen a b c d
    obtain ⟨z2, e2, i2, s2⟩ := Phi_gen e f g h
    obtain ⟨p, q, r, s, t, i3, s3⟩ := MMul_gen a b c d e f g h
    by_cases h1 : e1 = 0
    · by_cases h2 : e2 = 0
      · have h3 : ¬ t = 0 := fun h3 => hk ⟨i1.1 h1, i2.1 h2, (i3 h3).2.2⟩
        clear i1 i2 i3 hk
        refine fn_sp (C := CX) [] [] tysX_ok mixed Try.func9 rfl (by kernel_rfl) Try.ntmps9 rfl rfl ?_
        repeat' ((conv => whnf); first | refine Ob.g ?_ | refine WrOb.g ?_ | refine WrOb.u32 ?_ | refine WrOb.u64 ?_ | refine Cases.y ?_ | refine Cases.n ?_ | refine Idx.g rfl ?_ | refine Idx.z rfl ?_ | refine DrawOb.start ?_ | refine TryF.f ?_ | refine TryF.next rfl ?_ | refine TryF.other ?_ | refine TryA.g ?_ | refine TryA.next rfl ?_ | refine TryA.other ?_ | refine TryS.g ?_ | refine TryS.next rfl ?_ | refine TryS.other ?_ | refine TryG.g ?_ | refine TryG.next rfl ?_ | refine TryG.other ?_ | refine TryT.g ?_ | refine Sp.g (aw) ?_ | refine Sp.g (s1) ?_ | refine Sp.g (s2) ?_ | refine Sp.g (s3) ?_)
        refine ⟨⟨_, _, rfl, rfl, ?_⟩⟩
        exact AvLe.refl _
      · clear i1 i2 i3 hk
        refine fn_sp (C := CX) [] [] tysX_ok mixed Try.func9 rfl (by kernel_rfl) Try.ntmps9 rfl rfl ?_
        repeat' ((conv => whnf); first | refine Ob.g ?_ | refine WrOb.g ?_ | refine WrOb.u32 ?_ | refine WrOb.u64 ?_ | refine Cases.y ?_ | refine Cases.n ?_ | refine Idx.g rfl ?_ | refine Idx.z rfl ?_ | refine DrawOb.start ?_ | refine TryF.f ?_ | refine TryF.next rfl ?_ | refine TryF.other ?_ | refine TryA.g ?_ | refine TryA.next rfl ?_ | refine TryA.other ?_ | refine TryS.g ?_ | refine TryS.next rfl ?_ | refine TryS.other ?_ | refine TryG.g ?_ | refine TryG.next rfl ?_ | refine TryG.other ?_ | refine TryT.g ?_ | refine Sp.g (aw) ?_ | refine Sp.g (s1) ?_ | refine Sp.g (s2) ?_ | refine Sp.g (s3) ?_)
        refine ⟨⟨_, _, rfl, rfl, ?_⟩⟩
        exact AvLe.refl _
    · clear i1 i2 i3 hk
      refine fn_sp (C := CX) [] [] tysX_ok mixed Try.func9 rfl (by kernel_rfl) Try.ntmps9 rfl rfl ?_
      repeat' ((conv => whnf); first | refine Ob.g ?_ | refine WrOb.g ?_ | refine WrOb.u32 ?_ | refine WrOb.u64 ?_ | refine Cases.y ?_ | refine Cases.n ?_ | refine Idx.g rfl ?_ | refine Idx.z rfl ?_ | refine DrawOb.start ?_ | refine TryF.f ?_ | refine TryF.next rfl ?_ | refine TryF.other ?_ | refine TryA.g ?_ | refine TryA.next rfl ?_ | refine TryA.other ?_ | refine TryS.g ?_ | refine TryS.next rfl ?_ | refine TryS.other ?_ | refine TryG.g ?_ | refine TryG.next rfl ?_ | refine TryG.other ?_ | refine TryT.g ?_ | refine Sp.g (aw) ?_ | refine Sp.g (s1) ?_ | refine Sp.g (s2) ?_ | refine Sp.g (s3) ?_)
      refine ⟨⟨_, _, rfl, rfl, ?_⟩⟩
      exact AvLe.refl _
end Go.Proofs.Ythfnbpnplbbibaa
