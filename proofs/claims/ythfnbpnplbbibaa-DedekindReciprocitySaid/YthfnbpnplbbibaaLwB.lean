/- The laws of Dedekind sums in letters: Sums, Integral, Reciprocity, Periods. -/
import Derived.Test.YthfnbpnplbbibaaPkSlB
namespace HP
theorem unit_gcdZ {u h k : Int} (hd : k ∣ 1 - u * h) : Int.gcd u k = 1 := by
  have g1 : (Int.gcd u k : Int) ∣ u := Int.gcd_dvd_left u k
  have g2 : (Int.gcd u k : Int) ∣ k := Int.gcd_dvd_right u k
  have g3 : (Int.gcd u k : Int) ∣ 1 := by
    have a := Int.dvd_trans g2 hd
    have b : (Int.gcd u k : Int) ∣ u * h := Int.dvd_trans g1 ⟨h, rfl⟩
    have := Int.dvd_add a b
    rw [show 1 - u * h + u * h = 1 by omega] at this
    exact this
  have := Int.eq_one_of_dvd_one (by omega) g3
  omega
theorem gcd_shift {h i : Int} {k : Nat} : Int.gcd (h + i * k) k = Int.gcd h k := by
  rw [← gcd_emodZ (h + i * k) k, Int.add_mul_emod_self_right, gcd_emodZ]
end HP
namespace Go.Proofs.Ythfnbpnplbbibaa
open Go Go.RowKit Go.VG HP
theorem law_sums (h k : Int) (bh : I64 h) (bk : I64 k) : Sp CX 3 [int .i64 h, int .i64 k] (bool true) := by
  have aw := daw_sp
  have er := rErr_sp h k
  by_cases hE : sumE h k = 0
  · obtain ⟨k1, k2, hh, hg⟩ := sumE_ok hE
    rw [hE] at er
    obtain ⟨K, rfl⟩ : ∃ K : Nat, k = K := ⟨k.toNat, by omega⟩
    have s := Sum_ok h K (by omega) (by have := k2.2; omega) hh hg
    by_cases hb : K ≤ 3000
    · have r := rSum_sp h K hE hb
      have q := SameRat_sp (sR h K) ((sR_QB h (by omega) (by have := k2.2; omega)).mono (by omega))
      generalize sR h K = S at *
      refine fn_sp (C := CX) [] [] tysX_ok mixed Try.func3 rfl (by kernel_rfl) Try.ntmps3 rfl rfl ?_
      repeat' ((conv => whnf); first | refine Ob.g ?_ | refine WrOb.g ?_ | refine WrOb.u32 ?_ | refine WrOb.u64 ?_ | refine Cases.y ?_ | refine Cases.n ?_ | refine Idx.g rfl ?_ | refine Idx.z rfl ?_ | refine DrawOb.start ?_ | refine TryF.f ?_ | refine TryF.next rfl ?_ | refine TryF.other ?_ | refine TryA.g ?_ | refine TryA.next rfl ?_ | refine TryA.other ?_ | refine TryS.g ?_ | refine TryS.next rfl ?_ | refine TryS.other ?_ | refine TryG.g ?_ | refine TryG.next rfl ?_ | refine TryG.other ?_ | refine TryT.g ?_ | refine Sp.g (aw) ?_ | refine Sp.g (s) ?_ | refine Sp.g (er) ?_ | refine Sp.g (r) ?_ | refine Sp.g (q) ?_)
      refine ⟨⟨_, _, rfl, rfl, ?_⟩⟩
      exact AvLe.refl _
    · generalize sR h K = S at *
      refine fn_sp (C := CX) [] [] tysX_ok mixed Try.func3 rfl (by kernel_rfl) Try.ntmps3 rfl rfl ?_
      repeat' ((conv => whnf); first | refine Ob.g ?_ | refine WrOb.g ?_ | refine WrOb.u32 ?_ | refine WrOb.u64 ?_ | refine Cases.y ?_ | refine Cases.n ?_ | refine Idx.g rfl ?_ | refine Idx.z rfl ?_ | refine DrawOb.start ?_ | refine TryF.f ?_ | refine TryF.next rfl ?_ | refine TryF.other ?_ | refine TryA.g ?_ | refine TryA.next rfl ?_ | refine TryA.other ?_ | refine TryS.g ?_ | refine TryS.next rfl ?_ | refine TryS.other ?_ | refine TryG.g ?_ | refine TryG.next rfl ?_ | refine TryG.other ?_ | refine TryT.g ?_ | refine Sp.g (aw) ?_ | refine Sp.g (s) ?_ | refine Sp.g (er) ?_)
      refine ⟨⟨_, _, rfl, rfl, ?_⟩⟩
      exact AvLe.refl _
  · have s := Sum_bad h k bh bk hE
    have z := sameQ0
    generalize sumE h k = e at *
    refine fn_sp (C := CX) [] [] tysX_ok mixed Try.func3 rfl (by kernel_rfl) Try.ntmps3 rfl rfl ?_
    repeat' ((conv => whnf); first | refine Ob.g ?_ | refine WrOb.g ?_ | refine WrOb.u32 ?_ | refine WrOb.u64 ?_ | refine Cases.y ?_ | refine Cases.n ?_ | refine Idx.g rfl ?_ | refine Idx.z rfl ?_ | refine DrawOb.start ?_ | refine TryF.f ?_ | refine TryF.next rfl ?_ | refine TryF.other ?_ | refine TryA.g ?_ | refine TryA.next rfl ?_ | refine TryA.other ?_ | refine TryS.g ?_ | refine TryS.next rfl ?_ | refine TryS.other ?_ | refine TryG.g ?_ | refine TryG.next rfl ?_ | refine TryG.other ?_ | refine TryT.g ?_ | refine Sp.g (aw) ?_ | refine Sp.g (s) ?_ | refine Sp.g (er) ?_ | refine Sp.g (z) ?_)
    refine ⟨⟨_, _, rfl, rfl, ?_⟩⟩
    exact AvLe.refl _
set_option maxHeartbeats 4000000 in
theorem law_recip (h k : Int) (bh : I64 h) (bk : I64 k) : Sp CX 6 [int .i64 h, int .i64 k] (bool true) := by
  have aw := daw_sp
  by_cases hE : sumE h k = 0
  · obtain ⟨k1, k2, hh, hg⟩ := sumE_ok hE
    obtain ⟨K, rfl⟩ : ∃ K : Nat, k = K := ⟨k.toNat, by omega⟩
    have k3 := k2.2
    have s := Sum_ok h K (by omega) (by omega) hh hg
    by_cases hp : h < 1
    · generalize sR h K = S at *
      refine fn_sp (C := CX) [] [] tysX_ok mixed Try.func6 rfl (by kernel_rfl) Try.ntmps6 rfl rfl ?_
      repeat' ((conv => whnf); first | refine Ob.g ?_ | refine WrOb.g ?_ | refine WrOb.u32 ?_ | refine WrOb.u64 ?_ | refine Cases.y ?_ | refine Cases.n ?_ | refine Idx.g rfl ?_ | refine Idx.z rfl ?_ | refine DrawOb.start ?_ | refine TryF.f ?_ | refine TryF.next rfl ?_ | refine TryF.other ?_ | refine TryA.g ?_ | refine TryA.next rfl ?_ | refine TryA.other ?_ | refine TryS.g ?_ | refine TryS.next rfl ?_ | refine TryS.other ?_ | refine TryG.g ?_ | refine TryG.next rfl ?_ | refine TryG.other ?_ | refine TryT.g ?_ | refine Sp.g (aw) ?_ | refine Sp.g (s) ?_)
      refine ⟨⟨_, _, rfl, rfl, ?_⟩⟩
      exact AvLe.refl _
    · obtain ⟨H, rfl⟩ : ∃ H : Nat, h = H := ⟨h.toNat, by omega⟩
      have hH : 0 < H := by omega
      have hK : 0 < K := by omega
      have h3 := hh.2
      have bH : H ≤ 1073741824 := by omega
      have bK : K ≤ 1073741824 := by omega
      have s2 := Sum_ok K H hH bH k2 (by rw [Int.gcd_comm]; exact hg)
      have law := recip_lawQ hH hK hg
      have Q1 := sR_QB H hK bK
      have Q2 := sR_QB K hH bH
      have o12 := ROf_sp 12 (by omega) (by omega)
      have ad := RAdd_sp (sR H K) (sR K H) (Q1.mono (by omega)) (Q2.mono (by omega))
      have mu := RMul_sp ((12 : Int) : Rat) (sR H K + sR K H) ((QB.i64 (n := 12) (by omega) (by omega)).mono (by omega)) ((Q1.add Q2).mono (by omega))
      rw [law] at mu
      obtain ⟨t1, t2⟩ := term_bd hH hK bH bK
      have x1 : ((H : Int) * H) = ((H * H : Nat) : Int) := (Int.natCast_mul ..).symm
      have x2 : ((K : Int) * K) = ((K * K : Nat) : Int) := (Int.natCast_mul ..).symm
      have x3 : ((H : Int) * K) = ((H * K : Nat) : Int) := (Int.natCast_mul ..).symm
      have y1 := Nat.mul_le_mul bH bH
      have y2 := Nat.mul_le_mul bK bK
      have y3 := Nat.mul_le_mul bH bK
      have a0 : 0 < H * K := Nat.mul_pos hH hK
      have o1 := Of_sp H (by omega) (by omega)
      have o2 := Of_sp K (by omega) (by omega)
      have c1 := Of_sp 1 (by omega) (by omega)
      have c3 := Of_sp 3 (by omega) (by omega)
      have lh : ln (H : Int).natAbs ≤ 2 := ln64 (by omega) (by omega)
      have lk : ln (K : Int).natAbs ≤ 2 := ln64 (by omega) (by omega)
      have l3 : ln (3 : Int).natAbs ≤ 2 := by decide
      have l1 : ln (1 : Int).natAbs ≤ 2 := by decide
      have m1 := BMul_sp H H (by omega) (by omega)
      have m2 := BMul_sp K K (by omega) (by omega)
      have m3 := BMul_sp H K (by omega) (by omega)
      have lhh : ln ((H : Int) * H).natAbs ≤ 2 := ln_i (by rw [x1]; omega)
      have lkk : ln ((K : Int) * K).natAbs ≤ 2 := ln_i (by rw [x2]; omega)
      have lhk : ln ((H : Int) * K).natAbs ≤ 2 := ln_i (by rw [x3]; omega)
      have a1 := Add_sp ((H : Int) * H) ((K : Int) * K) (by omega) (by omega)
      have la : ln ((H : Int) * H + (K : Int) * K).natAbs ≤ 2 := ln_i (by rw [x1, x2]; omega)
      have a2 := Add_sp ((H : Int) * H + (K : Int) * K) 1 (by omega) (by omega)
      have lb : ln ((H : Int) * H + (K : Int) * K + 1).natAbs ≤ 2 := ln_i (by rw [x1, x2]; omega)
      have m4 := BMul_sp 3 ((H : Int) * K) (by omega) (by omega)
      have l3k : ln (3 * ((H : Int) * K)).natAbs ≤ 2 := ln_i (by rw [x3]; omega)
      have u1 := Sub_sp ((H : Int) * H + (K : Int) * K + 1) (3 * ((H : Int) * K)) (by omega) (by omega)
      have ln1 : ln ((H : Int) * H + (K : Int) * K + 1 - 3 * ((H : Int) * K)).natAbs ≤ 2 := ln_i (by omega)
      have d0 : ((H : Int) * K) ≠ 0 := by rw [x3]; omega
      have mk := Make_sp ((H : Int) * H + (K : Int) * K + 1 - 3 * ((H : Int) * K)) ((H : Int) * K) d0 (by omega) (by omega)
      have qt := QB.divInt (k := 2) d0 ln1 lhk
      generalize Rat.divInt ((H : Int) * H + (K : Int) * K + 1 - 3 * ((H : Int) * K)) ((H : Int) * K) = t at *
      have sm := SameRat_sp t (qt.mono (by omega))
      generalize sR H K = S1 at *
      generalize sR K H = S2 at *
      clear x1 x2 x3 y1 y2 y3 t1 t2 lh lk l3 l1 lhh lkk lhk la lb l3k ln1 d0 qt a0 Q1 Q2 law hE
      refine fn_sp (C := CX) [] [] tysX_ok mixed Try.func6 rfl (by kernel_rfl) Try.ntmps6 rfl rfl ?_
      repeat' ((conv => whnf); first | refine Ob.g ?_ | refine WrOb.g ?_ | refine WrOb.u32 ?_ | refine WrOb.u64 ?_ | refine Cases.y ?_ | refine Cases.n ?_ | refine Idx.g rfl ?_ | refine Idx.z rfl ?_ | refine DrawOb.start ?_ | refine TryF.f ?_ | refine TryF.next rfl ?_ | refine TryF.other ?_ | refine TryA.g ?_ | refine TryA.next rfl ?_ | refine TryA.other ?_ | refine TryS.g ?_ | refine TryS.next rfl ?_ | refine TryS.other ?_ | refine TryG.g ?_ | refine TryG.next rfl ?_ | refine TryG.other ?_ | refine TryT.g ?_ | refine Sp.g (aw) ?_ | refine Sp.g (s) ?_ | refine Sp.g (s2) ?_ | refine Sp.g (o1) ?_ | refine Sp.g (o2) ?_ | refine Sp.g (c1) ?_ | refine Sp.g (c3) ?_ | refine Sp.g (m1) ?_ | refine Sp.g (m2) ?_ | refine Sp.g (m3) ?_ | refine Sp.g (m4) ?_ | refine Sp.g (a1) ?_ | refine Sp.g (a2) ?_ | refine Sp.g (u1) ?_ | refine Sp.g (mk) ?_ | refine Sp.g (o12) ?_ | refine Sp.g (ad) ?_ | refine Sp.g (mu) ?_ | refine Sp.g (sm) ?_)
      refine ⟨⟨_, _, rfl, rfl, ?_⟩⟩
      exact AvLe.refl _
  · have s := Sum_bad h k bh bk hE
    generalize sumE h k = e at *
    refine fn_sp (C := CX) [] [] tysX_ok mixed Try.func6 rfl (by kernel_rfl) Try.ntmps6 rfl rfl ?_
    repeat' ((conv => whnf); first | refine Ob.g ?_ | refine WrOb.g ?_ | refine WrOb.u32 ?_ | refine WrOb.u64 ?_ | refine Cases.y ?_ | refine Cases.n ?_ | refine Idx.g rfl ?_ | refine Idx.z rfl ?_ | refine DrawOb.start ?_ | refine TryF.f ?_ | refine TryF.next rfl ?_ | refine TryF.other ?_ | refine TryA.g ?_ | refine TryA.next rfl ?_ | refine TryA.other ?_ | refine TryS.g ?_ | refine TryS.next rfl ?_ | refine TryS.other ?_ | refine TryG.g ?_ | refine TryG.next rfl ?_ | refine TryG.other ?_ | refine TryT.g ?_ | refine Sp.g (aw) ?_ | refine Sp.g (s) ?_)
    refine ⟨⟨_, _, rfl, rfl, ?_⟩⟩
    exact AvLe.refl _
set_option maxHeartbeats 8000000 in
theorem law_periods (h k i : Int) (bh : I64 h) (bk : I64 k) (i1 : -32768 ≤ i) (i2 : i ≤ 32767) : Sp CX 4 [int .i64 h, int .i64 k, int .i16 i] (bool true) := by
  have aw := daw_sp
  by_cases hE : sumE h k = 0
  · obtain ⟨k1, k2, hh, hg⟩ := sumE_ok hE
    obtain ⟨K, rfl⟩ : ∃ K : Nat, k = K := ⟨k.toNat, by omega⟩
    have k3 := k2.2
    have hK : 0 < K := by omega
    have bK : K ≤ 1073741824 := by omega
    have s := Sum_ok h K hK bK hh hg
    have Q := sR_QB h hK bK
    have ik := mulbd (x := i) (y := K) (X := 32768) (Y := 1073741824) (by omega) (by omega)
    have rx := rin_sp (h + i * K)
    have sx : InE (h + i * K) → Sp CX 13 [int .i64 (h + i * K), int .i64 K] (.tup [qV (sR h K), .c (ix 0)]) := fun hx => by
      have := Sum_ok (h + i * K) K hK bK hx (by rw [gcd_shift]; exact hg)
      rw [sR_congr (d := h + i * K) (d' := h) ⟨i, by rw [Int.mul_comm]; omega⟩] at this
      exact this
    have sn : Sp CX 13 [int .i64 (-h), int .i64 K] (.tup [qV (-sR h K), .c (ix 0)]) := by
      have := Sum_ok (-h) K hK bK ⟨by have := hh.2; omega, by have := hh.1; omega⟩ (by rw [Int.neg_gcd]; exact hg)
      rw [sR_neg hK hg] at this
      exact this
    have ng := RNeg_sp (sR h K) (Q.mono (by omega))
    have q1 := SameRat_sp (sR h K) (Q.mono (by omega))
    have q2 := SameRat_sp (-sR h K) (Q.neg.mono (by omega))
    have bm := bmod_sp h K (by omega) (by omega) bh
    have h0 := Int.emod_nonneg h (show (K : Int) ≠ 0 by omega)
    have h1 := Int.emod_lt_of_pos h (show (0 : Int) < K by omega)
    have hg2 : Int.gcd (h % K) K = 1 := by rw [gcd_emodZ]; exact hg
    have st := EI.start h0 (show (0 : Int) < K by omega) hg2
    have tail : ∀ u : Int, u.natAbs ≤ K → (K : Int) ∣ 1 - u * (h % K) → Sp CX 13 [int .i64 (u % K), int .i64 K] (.tup [qV (sR h K), .c (ix 0)]) := fun u hu hd => by
      have g := unit_gcdZ hd
      have u0 := Int.emod_nonneg u (show (K : Int) ≠ 0 by omega)
      have u1 := Int.emod_lt_of_pos u (show (0 : Int) < K by omega)
      have := Sum_ok (u % K) K hK bK ⟨by omega, by omega⟩ (by rw [gcd_emodZ]; exact g)
      rw [sR_emod, ← sR_inv hK hd, sR_emod] at this
      exact this
    have h2 := hh.1
    have h3 := hh.2
    generalize sR h K = S at *
    generalize h % (K : Int) = H at *
    clear Q hE hg hg2 bh
    have main : ∀ (b : Bool), decide (InE (h + i * K)) = b → Sp CX 4 [int .i64 h, int .i64 K, int .i16 i] (bool true) := fun b hb => by
      rw [hb] at rx
      cases b with
      | true =>
        have sx' := sx (of_decide_eq_true hb)
        clear sx
        refine fn_sp (C := CX) [] [] tysX_ok mixed Try.func4 rfl (by kernel_rfl) Try.ntmps4 rfl rfl ?_
        repeat' ((conv => whnf); first | refine Ob.g ?_ | refine WrOb.g ?_ | refine WrOb.u32 ?_ | refine WrOb.u64 ?_ | refine Cases.y ?_ | refine Cases.n ?_ | refine Idx.g rfl ?_ | refine Idx.z rfl ?_ | refine DrawOb.start ?_ | refine TryF.f ?_ | refine TryF.next rfl ?_ | refine TryF.other ?_ | refine TryA.g ?_ | refine TryA.next rfl ?_ | refine TryA.other ?_ | refine TryS.g ?_ | refine TryS.next rfl ?_ | refine TryS.other ?_ | refine TryG.g ?_ | refine TryG.next rfl ?_ | refine TryG.other ?_ | refine TryT.g ?_ | refine Sp.g (aw) ?_ | refine Sp.g (s) ?_ | refine Sp.g (rx) ?_ | refine Sp.g (sx') ?_ | refine Sp.g (sn) ?_ | refine Sp.g (ng) ?_ | refine Sp.g (q1) ?_ | refine Sp.g (q2) ?_ | refine Sp.g (bm) ?_)
        clear sx' aw
        refine ⟨⟨Int × Int × Int × Int, fun (x, y, u, v) => ⟨[(1, int .i64 K), (7, .v (.c (.loc 0 0))), (14, int .i64 x), (15, int .i64 y), (16, int .i64 u), (17, int .i64 v)], [(0, .st (qLs S))], 1⟩, fun (x, y, u, v) => EI H K x y u v ∧ x ≤ K ∧ y ≤ K, fun (_, y, _, _) => y.toNat, ⟨(H, K, 1, 0), [], ⟨st, by omega, by omega⟩, Ent.g⟩, ?_⟩⟩
        rintro ⟨x, y, u, v⟩ ⟨ei, bx, bY⟩
        clear s rx sn ng q2 bm
        have x0 := ei.x0
        have y0 := ei.y0
        have ub := ei.ub
        have vb := ei.vb
        by_cases hy : y = 0
        · subst hy
          have tl := tail u (by omega) ei.inv
          have bu := bmod_sp u K (by omega) (by omega) ⟨by omega, by omega⟩
          clear tail
          repeat' ((conv => whnf); first | refine Ob.g ?_ | refine WrOb.g ?_ | refine WrOb.u32 ?_ | refine WrOb.u64 ?_ | refine Cases.y ?_ | refine Cases.n ?_ | refine Idx.g rfl ?_ | refine Idx.z rfl ?_ | refine DrawOb.start ?_ | refine TryF.f ?_ | refine TryF.next rfl ?_ | refine TryF.other ?_ | refine TryA.g ?_ | refine TryA.next rfl ?_ | refine TryA.other ?_ | refine TryS.g ?_ | refine TryS.next rfl ?_ | refine TryS.other ?_ | refine TryG.g ?_ | refine TryG.next rfl ?_ | refine TryG.other ?_ | refine TryT.g ?_ | refine Sp.g (bu) ?_ | refine Sp.g (tl) ?_ | refine Sp.g (q1) ?_)
          refine ⟨⟨_, _, rfl, rfl, ?_⟩⟩
          exact AvLe.refl _
        · have e2 := ei.step (by omega) (show (0 : Int) < K by omega)
          have td : x.tdiv y = x / y := Int.tdiv_eq_ediv_of_nonneg x0
          have qy0 : 0 ≤ x / y * y ∧ x / y * y ≤ x := ⟨Int.mul_nonneg (Int.ediv_nonneg x0 y0) y0, Int.ediv_mul_le x hy⟩
          have qb : 0 ≤ x / y ∧ x / y ≤ x := ⟨Int.ediv_nonneg x0 y0, Int.ediv_le_self _ x0⟩
          have qv := e2.vb
          have xm : 0 ≤ x - x / y * y := e2.y0
          have xl : x - x / y * y < y := by
            have := Int.emod_lt_of_pos x (show 0 < y by omega)
            rw [Int.emod_def, Int.mul_comm] at this
            exact this
          have eo : y ≠ 0 ∧ InK .i64 (x.tdiv y) := ⟨hy, by rw [td]; show -9223372036854775808 ≤ x / y ∧ x / y ≤ 9223372036854775807; omega⟩
          clear tail st
          repeat' ((conv => whnf); first | (refine Ob.mk eo ?_) | refine Ob.g ?_ | refine WrOb.g ?_ | refine WrOb.u32 ?_ | refine WrOb.u64 ?_ | refine Cases.y ?_ | refine Cases.n ?_ | refine Idx.g rfl ?_ | refine Idx.z rfl ?_ | refine DrawOb.start ?_ | refine TryF.f ?_ | refine TryF.next rfl ?_ | refine TryF.other ?_ | refine TryA.g ?_ | refine TryA.next rfl ?_ | refine TryA.other ?_ | refine TryS.g ?_ | refine TryS.next rfl ?_ | refine TryS.other ?_ | refine TryG.g ?_ | refine TryG.next rfl ?_ | refine TryG.other ?_ | refine TryT.g ?_ | (rw [td]))
          exact ⟨(y, x - x / y * y, v, u - x / y * v), [], ⟨e2, bY, by omega⟩, by show (x - x / y * y).toNat < y.toNat; omega, Ent.g⟩
      | false =>
        clear sx
        refine fn_sp (C := CX) [] [] tysX_ok mixed Try.func4 rfl (by kernel_rfl) Try.ntmps4 rfl rfl ?_
        repeat' ((conv => whnf); first | refine Ob.g ?_ | refine WrOb.g ?_ | refine WrOb.u32 ?_ | refine WrOb.u64 ?_ | refine Cases.y ?_ | refine Cases.n ?_ | refine Idx.g rfl ?_ | refine Idx.z rfl ?_ | refine DrawOb.start ?_ | refine TryF.f ?_ | refine TryF.next rfl ?_ | refine TryF.other ?_ | refine TryA.g ?_ | refine TryA.next rfl ?_ | refine TryA.other ?_ | refine TryS.g ?_ | refine TryS.next rfl ?_ | refine TryS.other ?_ | refine TryG.g ?_ | refine TryG.next rfl ?_ | refine TryG.other ?_ | refine TryT.g ?_ | refine Sp.g (aw) ?_ | refine Sp.g (s) ?_ | refine Sp.g (rx) ?_ | refine Sp.g (sn) ?_ | refine Sp.g (ng) ?_ | refine Sp.g (q1) ?_ | refine Sp.g (q2) ?_ | refine Sp.g (bm) ?_)
        clear aw
        refine ⟨⟨Int × Int × Int × Int, fun (x, y, u, v) => ⟨[(1, int .i64 K), (7, .v (.c (.loc 0 0))), (14, int .i64 x), (15, int .i64 y), (16, int .i64 u), (17, int .i64 v)], [(0, .st (qLs S))], 1⟩, fun (x, y, u, v) => EI H K x y u v ∧ x ≤ K ∧ y ≤ K, fun (_, y, _, _) => y.toNat, ⟨(H, K, 1, 0), [], ⟨st, by omega, by omega⟩, Ent.g⟩, ?_⟩⟩
        rintro ⟨x, y, u, v⟩ ⟨ei, bx, bY⟩
        clear s rx sn ng q2 bm
        have x0 := ei.x0
        have y0 := ei.y0
        have ub := ei.ub
        have vb := ei.vb
        by_cases hy : y = 0
        · subst hy
          have tl := tail u (by omega) ei.inv
          have bu := bmod_sp u K (by omega) (by omega) ⟨by omega, by omega⟩
          clear tail
          repeat' ((conv => whnf); first | refine Ob.g ?_ | refine WrOb.g ?_ | refine WrOb.u32 ?_ | refine WrOb.u64 ?_ | refine Cases.y ?_ | refine Cases.n ?_ | refine Idx.g rfl ?_ | refine Idx.z rfl ?_ | refine DrawOb.start ?_ | refine TryF.f ?_ | refine TryF.next rfl ?_ | refine TryF.other ?_ | refine TryA.g ?_ | refine TryA.next rfl ?_ | refine TryA.other ?_ | refine TryS.g ?_ | refine TryS.next rfl ?_ | refine TryS.other ?_ | refine TryG.g ?_ | refine TryG.next rfl ?_ | refine TryG.other ?_ | refine TryT.g ?_ | refine Sp.g (bu) ?_ | refine Sp.g (tl) ?_ | refine Sp.g (q1) ?_)
          refine ⟨⟨_, _, rfl, rfl, ?_⟩⟩
          exact AvLe.refl _
        · have e2 := ei.step (by omega) (show (0 : Int) < K by omega)
          have td : x.tdiv y = x / y := Int.tdiv_eq_ediv_of_nonneg x0
          have qy0 : 0 ≤ x / y * y ∧ x / y * y ≤ x := ⟨Int.mul_nonneg (Int.ediv_nonneg x0 y0) y0, Int.ediv_mul_le x hy⟩
          have qb : 0 ≤ x / y ∧ x / y ≤ x := ⟨Int.ediv_nonneg x0 y0, Int.ediv_le_self _ x0⟩
          have qv := e2.vb
          have xm : 0 ≤ x - x / y * y := e2.y0
          have xl : x - x / y * y < y := by
            have := Int.emod_lt_of_pos x (show 0 < y by omega)
            rw [Int.emod_def, Int.mul_comm] at this
            exact this
          have eo : y ≠ 0 ∧ InK .i64 (x.tdiv y) := ⟨hy, by rw [td]; show -9223372036854775808 ≤ x / y ∧ x / y ≤ 9223372036854775807; omega⟩
          clear tail st
          repeat' ((conv => whnf); first | (refine Ob.mk eo ?_) | refine Ob.g ?_ | refine WrOb.g ?_ | refine WrOb.u32 ?_ | refine WrOb.u64 ?_ | refine Cases.y ?_ | refine Cases.n ?_ | refine Idx.g rfl ?_ | refine Idx.z rfl ?_ | refine DrawOb.start ?_ | refine TryF.f ?_ | refine TryF.next rfl ?_ | refine TryF.other ?_ | refine TryA.g ?_ | refine TryA.next rfl ?_ | refine TryA.other ?_ | refine TryS.g ?_ | refine TryS.next rfl ?_ | refine TryS.other ?_ | refine TryG.g ?_ | refine TryG.next rfl ?_ | refine TryG.other ?_ | refine TryT.g ?_ | (rw [td]))
          exact ⟨(y, x - x / y * y, v, u - x / y * v), [], ⟨e2, bY, by omega⟩, by show (x - x / y * y).toNat < y.toNat; omega, Ent.g⟩
    exact main _ rfl
  · have s := Sum_bad h k bh bk hE
    generalize sumE h k = e at *
    refine fn_sp (C := CX) [] [] tysX_ok mixed Try.func4 rfl (by kernel_rfl) Try.ntmps4 rfl rfl ?_
    repeat' ((conv => whnf); first | refine Ob.g ?_ | refine WrOb.g ?_ | refine WrOb.u32 ?_ | refine WrOb.u64 ?_ | refine Cases.y ?_ | refine Cases.n ?_ | refine Idx.g rfl ?_ | refine Idx.z rfl ?_ | refine DrawOb.start ?_ | refine TryF.f ?_ | refine TryF.next rfl ?_ | refine TryF.other ?_ | refine TryA.g ?_ | refine TryA.next rfl ?_ | refine TryA.other ?_ | refine TryS.g ?_ | refine TryS.next rfl ?_ | refine TryS.other ?_ | refine TryG.g ?_ | refine TryG.next rfl ?_ | refine TryG.other ?_ | refine TryT.g ?_ | refine Sp.g (aw) ?_ | refine Sp.g (s) ?_)
    refine ⟨⟨_, _, rfl, rfl, ?_⟩⟩
    exact AvLe.refl _
end Go.Proofs.Ythfnbpnplbbibaa
