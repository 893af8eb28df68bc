/- Own texts joined: LwB, LwC, LwF, LwD, LwG. -/
import Derived.Test.YthfnbpnplbbibaaPkSlB
/- The laws of Dedekind sums in letters: Sums, Integral, Reciprocity, Periods. -/
namespace HP
theorem dZ_bd {h : Int} {k : Nat} (hk : 0 < k) (bk : k ≤ 1073741824) : (dZ h k).natAbs ≤ 6917529027641081856 := by
  have b1 : (dZ h k).natAbs ≤ 6 * (k * k) := dN_bd hk
  have b2 : k * k ≤ 1073741824 * 1073741824 := Nat.mul_le_mul bk bk
  omega
end HP
namespace Go.Proofs.Ythfnbpnplbbibaa
open Go Go.RowKit Go.VG HP
end Go.Proofs.Ythfnbpnplbbibaa

/- The laws of Dedekind sums in letters: Phi, Cocycle, Homomorphism. -/
namespace Go.Proofs.Ythfnbpnplbbibaa
open Go Go.RowKit Go.VG HP
theorem rad_ln {a b c d : Int} (hE : matE a b c d = 0) : ln (rad ⟨a, b, c, d⟩).natAbs ≤ 3 := by
  obtain ⟨hf, h1⟩ := mat_ok hE
  by_cases hc : c = 0
  · rw [rad_zero (x := ⟨a, b, c, d⟩) hc]
    have := pbd hf.2.1 hf.2.2.2
    exact Nat.le_trans (ln_two (by show (b * d).natAbs < _; omega)) (by omega)
  · have rb : (rad ⟨a, b, c, d⟩).natAbs ≤ (a + d).natAbs + 12 * (c.natAbs * c.natAbs) := rad_bd (m := ⟨a, b, c, d⟩) h1 hc
    obtain ⟨⟨x1, x2⟩, _, ⟨x3, x4⟩, ⟨x5, x6⟩⟩ := hf
    have kk : c.natAbs * c.natAbs ≤ 1073741824 * 1073741824 := Nat.mul_le_mul (by omega) (by omega)
    exact ln3 (by omega)
theorem sign_bd (c : Int) : -1 ≤ c.sign ∧ c.sign ≤ 1 := by rcases sgn_tri c with ⟨e, _⟩ | ⟨e, _⟩ | ⟨e, _⟩ <;> omega
end Go.Proofs.Ythfnbpnplbbibaa

/- The laws of Dedekind sums in letters: Integral, Abelian. -/
namespace Go.Proofs.Ythfnbpnplbbibaa
open Go Go.RowKit Go.VG HP
set_option maxHeartbeats 4000000 in
theorem law_integral (h k : Int) (bh : I64 h) (bk : I64 k) : Sp CX 5 [int .i64 h, int .i64 k] (bool true) := by
  have aw := daw_sp
  by_cases hE : sumE h k = 0
  · obtain ⟨k1, k2, hh, hg⟩ := sumE_ok hE
    obtain ⟨K, rfl⟩ : ∃ K : Nat, k = K := ⟨k.toNat, by omega⟩
    have k3 := k2.2
    have s := Sum_ok h K (by omega) (by omega) hh hg
    have Qs := sR_QB h (show 0 < K by omega) (by omega)
    have o6 := ROf_sp (6 * K) (by omega) (by omega)
    have m6 := RMul_sp (sR h K) ((6 * K : Int) : Rat) (Qs.mono (by omega)) ((QB.i64 (n := 6 * K) (by omega) (by omega)).mono (by omega))
    rw [sR_six (by omega)] at m6
    have db := dZ_bd (h := h) (show 0 < K by omega) (by omega)
    have ld : ln (dZ h K).natAbs ≤ 2 := ln_i (by omega)
    have it := Integer_sp (dZ h K) (by omega)
    have law := integral_law (h := h) (show 0 < K by omega) hg
    generalize dZ h K = D at *
    have bm := bmod_sp h K (by omega) (by omega) bh
    have h0 := Int.emod_nonneg h (show (K : Int) ≠ 0 by omega)
    have h1 := Int.emod_lt_of_pos h (show (0 : Int) < K by omega)
    generalize h % (K : Int) = H at *
    have o2 := Of_sp (2 * H) (by omega) (by omega)
    have oH := Of_sp H (by omega) (by omega)
    have o1 := Of_sp 1 (by omega) (by omega)
    have oK := Of_sp K (by omega) (by omega)
    have lH : ln H.natAbs ≤ 2 := ln64 (by omega) (by omega)
    have l2H : ln (2 * H).natAbs ≤ 2 := ln64 (by omega) (by omega)
    have lK : ln (K : Int).natAbs ≤ 2 := ln64 (by omega) (by omega)
    have l1 : ln (1 : Int).natAbs ≤ 1 := by decide
    have m1 := BMul_sp D (2 * H) (by omega) (by omega)
    have m2 := BMul_sp H H (by omega) (by omega)
    have lm1 : ln (D * (2 * H)).natAbs ≤ 4 := by
      rw [Int.natAbs_mul]
      have := ln_mul D.natAbs (2 * H).natAbs
      omega
    have lm2 : ln (H * H).natAbs ≤ 4 := by
      rw [Int.natAbs_mul]
      have := ln_mul H.natAbs H.natAbs
      omega
    have a1 := Add_sp (H * H) 1 (by omega) (by omega)
    have la1 : ln (H * H + 1).natAbs ≤ 5 := by
      have h := ln_mono (Int.natAbs_add_le (H * H) 1)
      have := ln_add (H * H).natAbs (1 : Int).natAbs
      omega
    have u1 := Sub_sp (D * (2 * H)) (H * H + 1) (by omega) (by omega)
    have lu : ln (D * (2 * H) - (H * H + 1)).natAbs ≤ 6 := by
      have h := ln_mono (Int.natAbs_sub_le (D * (2 * H)) (H * H + 1))
      have := ln_add (D * (2 * H)).natAbs (H * H + 1).natAbs
      omega
    have dm := DivMod_sp (D * (2 * H) - (H * H + 1)) K (by omega) (by omega) (by omega)
    rw [Int.emod_eq_zero_of_dvd law] at dm
    have sg : Sp CX 28 [zA 0] (int .i64 0) := Sign_sp 0 (by decide)
    generalize sR h K = S at *
    clear law lm1 lm2 la1 lu db ld Qs lH l2H lK l1 hg hh k2 hE bh
    refine fn_sp (C := CX) [] [] tysX_ok mixed Try.func5 rfl (by kernel_rfl) Try.ntmps5 rfl rfl ?_
    repeat' ((conv => whnf); first | refine Ob.g ?_ | refine WrOb.g ?_ | refine WrOb.u32 ?_ | refine WrOb.u64 ?_ | refine Cases.y ?_ | refine Cases.n ?_ | refine Idx.g rfl ?_ | refine Idx.z rfl ?_ | refine DrawOb.start ?_ | refine TryF.f ?_ | refine TryF.next rfl ?_ | refine TryF.other ?_ | refine TryA.g ?_ | refine TryA.next rfl ?_ | refine TryA.other ?_ | refine TryS.g ?_ | refine TryS.next rfl ?_ | refine TryS.other ?_ | refine TryG.g ?_ | refine TryG.next rfl ?_ | refine TryG.other ?_ | refine TryT.g ?_ | refine TryT.z ?_ | refine EmpOb.mk rfl ?_ | refine Sp.g (aw) ?_ | refine Sp.g (s) ?_ | refine Sp.g (o6) ?_ | refine Sp.g (m6) ?_ | refine Sp.g (it) ?_ | refine Sp.g (bm) ?_ | refine Sp.g (o2) ?_ | refine Sp.g (oH) ?_ | refine Sp.g (o1) ?_ | refine Sp.g (oK) ?_ | refine Sp.g (m1) ?_ | refine Sp.g (m2) ?_ | refine Sp.g (a1) ?_ | refine Sp.g (u1) ?_ | refine Sp.g (dm) ?_ | refine Sp.g (sg) ?_)
    refine ⟨⟨_, _, rfl, rfl, ?_⟩⟩
    exact AvLe.refl _
  · have s := Sum_bad h k bh bk hE
    generalize sumE h k = e at *
    refine fn_sp (C := CX) [] [] tysX_ok mixed Try.func5 rfl (by kernel_rfl) Try.ntmps5 rfl rfl ?_
    repeat' ((conv => whnf); first | refine Ob.g ?_ | refine WrOb.g ?_ | refine WrOb.u32 ?_ | refine WrOb.u64 ?_ | refine Cases.y ?_ | refine Cases.n ?_ | refine Idx.g rfl ?_ | refine Idx.z rfl ?_ | refine DrawOb.start ?_ | refine TryF.f ?_ | refine TryF.next rfl ?_ | refine TryF.other ?_ | refine TryA.g ?_ | refine TryA.next rfl ?_ | refine TryA.other ?_ | refine TryS.g ?_ | refine TryS.next rfl ?_ | refine TryS.other ?_ | refine TryG.g ?_ | refine TryG.next rfl ?_ | refine TryG.other ?_ | refine TryT.g ?_ | refine TryT.z ?_ | refine EmpOb.mk rfl ?_ | refine Sp.g (aw) ?_ | refine Sp.g (s) ?_)
    refine ⟨⟨_, _, rfl, rfl, ?_⟩⟩
    exact AvLe.refl _
theorem abel_core (a b c d n X : Int) (hE : matE a b c d = 0) (hX : X = rad ⟨a, b, c, d⟩) (law : (12 : Int) ∣ X - n) (hn : -100 ≤ n ∧ n ≤ 100) :
    Sp CX 23 [zA X, zA n] (zA (X - n)) ∧ Sp CX 27 [zA (X - n), zA 12] (.tup [zV ((X - n) / 12), zV 0, .c (ix 0)]) := by
  have l1 := rad_ln hE
  rw [← hX] at l1
  have l2 : ln n.natAbs ≤ 2 := ln64 (by omega) (by omega)
  refine ⟨Sub_sp X n (by omega) (by omega), ?_⟩
  have l3 : ln (X - n).natAbs ≤ 4 := by
    have h := ln_mono (Int.natAbs_sub_le X n)
    have := ln_add X.natAbs n.natAbs
    omega
  have dm := DivMod_sp (X - n) 12 (by omega) (by omega) (by decide)
  rw [Int.emod_eq_zero_of_dvd law] at dm
  exact dm
set_option maxHeartbeats 4000000 in
theorem law_abelian (a b c d : Int) : Sp CX 11 [mA a b c d] (bool true) := by
  have aw := daw_sp
  by_cases hE : matE a b c d = 0
  · obtain ⟨hf, h1⟩ := mat_ok hE
    have s1 := Phi_ok a b c d hE
    have F0 : FacI ⟨a, b, c, d⟩ 0 := by
      obtain ⟨⟨x1, x2⟩, ⟨x3, x4⟩, ⟨x5, x6⟩, ⟨x7, x8⟩⟩ := hf
      exact facI0 (by omega) (by omega) (by omega) (by omega) h1
    obtain ⟨N, hN, hN0, hF⟩ := fac_end _ 0 (Nat.le_refl _) F0 (fun i hi => absurd hi (Nat.not_lt_zero _))
    have s2 := Abel_ok a b c d hE N hN hN0 (fac_len F0 hN)
    have law : (12 : Int) ∣ rad ⟨a, b, c, d⟩ - (abZ ⟨a, b, c, d⟩ N + 3 * c.sign - if c = 0 ∧ d < 0 then 6 else 0) := abel_law (abZ_law hF hN0)
    have ab := abZ_bd ⟨a, b, c, d⟩ N
    have g1 := lsign_sp c
    have b1 := sign_bd c
    have sg : Sp CX 28 [zA 0] (int .i64 0) := Sign_sp 0 (by decide)
    have o12 := Of_sp 12 (by omega) (by omega)
    have core := fun n => abel_core a b c d n _ hE rfl
    generalize rad ⟨a, b, c, d⟩ = X at *
    generalize abZ ⟨a, b, c, d⟩ N = A at *
    generalize hs : c.sign = s at *
    clear hs hE h1 F0 hN hN0 hF
    by_cases hk : c = 0 ∧ d < 0
    · rw [if_pos hk] at law
      obtain ⟨k1, k2⟩ := hk
      obtain ⟨u1, u2⟩ := core _ law (by omega)
      have o := Of_sp (A + 3 * s - 6) (by omega) (by omega)
      clear law core hf
      refine fn_sp (C := CX) [] [] tysX_ok mixed Try.func11 rfl (by kernel_rfl) Try.ntmps11 rfl rfl ?_
      repeat' ((conv => whnf); first | refine Ob.g ?_ | refine WrOb.g ?_ | refine WrOb.u32 ?_ | refine WrOb.u64 ?_ | refine Cases.y ?_ | refine Cases.n ?_ | refine Idx.g rfl ?_ | refine Idx.z rfl ?_ | refine DrawOb.start ?_ | refine TryF.f ?_ | refine TryF.next rfl ?_ | refine TryF.other ?_ | refine TryA.g ?_ | refine TryA.next rfl ?_ | refine TryA.other ?_ | refine TryS.g ?_ | refine TryS.next rfl ?_ | refine TryS.other ?_ | refine TryG.g ?_ | refine TryG.next rfl ?_ | refine TryG.other ?_ | refine TryT.g ?_ | refine TryT.z ?_ | refine EmpOb.mk rfl ?_ | refine Sp.g (aw) ?_ | refine Sp.g (s1) ?_ | refine Sp.g (s2) ?_ | refine Sp.g (g1) ?_ | refine Sp.g (o) ?_ | refine Sp.g (u1) ?_ | refine Sp.g (o12) ?_ | refine Sp.g (u2) ?_ | refine Sp.g (sg) ?_)
      refine ⟨⟨_, _, rfl, rfl, ?_⟩⟩
      exact AvLe.refl _
    · rw [if_neg hk, Int.sub_zero] at law
      obtain ⟨u1, u2⟩ := core _ law (by omega)
      have o := Of_sp (A + 3 * s) (by omega) (by omega)
      clear law core hf
      by_cases hc : c = 0
      · have hd : ¬ d < 0 := fun h => hk ⟨hc, h⟩
        clear hk
        refine fn_sp (C := CX) [] [] tysX_ok mixed Try.func11 rfl (by kernel_rfl) Try.ntmps11 rfl rfl ?_
        repeat' ((conv => whnf); first | refine Ob.g ?_ | refine WrOb.g ?_ | refine WrOb.u32 ?_ | refine WrOb.u64 ?_ | refine Cases.y ?_ | refine Cases.n ?_ | refine Idx.g rfl ?_ | refine Idx.z rfl ?_ | refine DrawOb.start ?_ | refine TryF.f ?_ | refine TryF.next rfl ?_ | refine TryF.other ?_ | refine TryA.g ?_ | refine TryA.next rfl ?_ | refine TryA.other ?_ | refine TryS.g ?_ | refine TryS.next rfl ?_ | refine TryS.other ?_ | refine TryG.g ?_ | refine TryG.next rfl ?_ | refine TryG.other ?_ | refine TryT.g ?_ | refine TryT.z ?_ | refine EmpOb.mk rfl ?_ | refine Sp.g (aw) ?_ | refine Sp.g (s1) ?_ | refine Sp.g (s2) ?_ | refine Sp.g (g1) ?_ | refine Sp.g (o) ?_ | refine Sp.g (u1) ?_ | refine Sp.g (o12) ?_ | refine Sp.g (u2) ?_ | refine Sp.g (sg) ?_)
        refine ⟨⟨_, _, rfl, rfl, ?_⟩⟩
        exact AvLe.refl _
      · clear hk
        refine fn_sp (C := CX) [] [] tysX_ok mixed Try.func11 rfl (by kernel_rfl) Try.ntmps11 rfl rfl ?_
        repeat' ((conv => whnf); first | refine Ob.g ?_ | refine WrOb.g ?_ | refine WrOb.u32 ?_ | refine WrOb.u64 ?_ | refine Cases.y ?_ | refine Cases.n ?_ | refine Idx.g rfl ?_ | refine Idx.z rfl ?_ | refine DrawOb.start ?_ | refine TryF.f ?_ | refine TryF.next rfl ?_ | refine TryF.other ?_ | refine TryA.g ?_ | refine TryA.next rfl ?_ | refine TryA.other ?_ | refine TryS.g ?_ | refine TryS.next rfl ?_ | refine TryS.other ?_ | refine TryG.g ?_ | refine TryG.next rfl ?_ | refine TryG.other ?_ | refine TryT.g ?_ | refine TryT.z ?_ | refine EmpOb.mk rfl ?_ | refine Sp.g (aw) ?_ | refine Sp.g (s1) ?_ | refine Sp.g (s2) ?_ | refine Sp.g (g1) ?_ | refine Sp.g (o) ?_ | refine Sp.g (u1) ?_ | refine Sp.g (o12) ?_ | refine Sp.g (u2) ?_ | refine Sp.g (sg) ?_)
        refine ⟨⟨_, _, rfl, rfl, ?_⟩⟩
        exact AvLe.refl _
  · have s := Phi_bad a b c d hE
    have s2 := Abel_bad a b c d hE
    generalize matE a b c d = e at *
    refine fn_sp (C := CX) [] [] tysX_ok mixed Try.func11 rfl (by kernel_rfl) Try.ntmps11 rfl rfl ?_
    repeat' ((conv => whnf); first | refine Ob.g ?_ | refine WrOb.g ?_ | refine WrOb.u32 ?_ | refine WrOb.u64 ?_ | refine Cases.y ?_ | refine Cases.n ?_ | refine Idx.g rfl ?_ | refine Idx.z rfl ?_ | refine DrawOb.start ?_ | refine TryF.f ?_ | refine TryF.next rfl ?_ | refine TryF.other ?_ | refine TryA.g ?_ | refine TryA.next rfl ?_ | refine TryA.other ?_ | refine TryS.g ?_ | refine TryS.next rfl ?_ | refine TryS.other ?_ | refine TryG.g ?_ | refine TryG.next rfl ?_ | refine TryG.other ?_ | refine TryT.g ?_ | refine TryT.z ?_ | refine EmpOb.mk rfl ?_ | refine Sp.g (aw) ?_ | refine Sp.g (s) ?_ | refine Sp.g (s2) ?_)
    refine ⟨⟨_, _, rfl, rfl, ?_⟩⟩
    exact AvLe.refl _
theorem cIntegral (h k : Int) (h1 : -9223372036854775808 ≤ h) (h2 : h ≤ 9223372036854775807) (k1 : -9223372036854775808 ≤ k) (k2 : k ≤ 9223372036854775807) : Sp CX 5 [int .i64 h, int .i64 k] (bool true) := law_integral h k ⟨h1, h2⟩ ⟨k1, k2⟩
end Go.Proofs.Ythfnbpnplbbibaa

/- The laws of Dedekind sums in letters: Homomorphism. -/
namespace Go.Proofs.Ythfnbpnplbbibaa
open Go Go.RowKit Go.VG HP
/-- a multiplier, or what is wrong -/
theorem MuSpec.two {n : Nat} {Z : Nat → Nat} {R : Nat → Int} {len : Nat} {a b c d : Int} {r : AV} (h : MuSpec n Z R len a b c d r) :
    (∃ e, e ≠ 0 ∧ r = muErr e) ∨ ((∀ i, i < len → -200 ≤ R i ∧ R i ≤ 200) ∧ totS (prs Z R len) % 2 = 0 ∧ matE a b c d = 0 ∧ (n : Int) ∣ c ∧ r = mulO Z R len a b c d) := by
  rcases h with ⟨_, rfl⟩ | ⟨h1, ⟨_, rfl⟩ | ⟨h2, ⟨h3, rfl⟩ | ⟨h3, ⟨_, rfl⟩ | ⟨h4, rfl⟩⟩⟩⟩
  · exact .inl ⟨2, by omega, rfl⟩
  · exact .inl ⟨6, by omega, rfl⟩
  · exact .inl ⟨_, h3, rfl⟩
  · exact .inl ⟨12, by omega, rfl⟩
  · exact .inr ⟨h1, h2, h3, h4, rfl⟩
theorem mulV_QB (m : Mx) (l : List (Int × Int)) : QB 1 (mulV m l) := frp24_QB _
end Go.Proofs.Ythfnbpnplbbibaa

/- The laws of Dedekind sums in letters: Multipliers. -/
namespace Go.Proofs.Ythfnbpnplbbibaa
open Go Go.RowKit Go.VG HP
/-- the multiplier of the program, and that of the reference where it is asked -/
theorem Mult_two (n : Int) (R : Nat → Int) (m : Nat) (hR : ∀ i, i < m → I64 (R i)) (a b c d : Int) : ∃ r, Sp CX 36 [int .i64 n, isA R m, mA a b c d] r ∧
    ((matE a b c d = 0 → SmlE a c d) → Sp CX 37 [int .i64 n, isA R m, mA a b c d] r) ∧ ((∃ e, r = muErr e) ∨ ∃ v, QB 1 v ∧ r = .tup [qV v, .c (ix 0)]) := by
  by_cases hn : n < 1 ∨ 120 < n
  · exact ⟨_, Mult_range n R m a b c d hn, fun _ => rMult_range n R m a b c d hn, .inl ⟨_, rfl⟩⟩
  obtain ⟨N, rfl⟩ : ∃ N : Nat, n = N := ⟨n.toNat, by omega⟩
  have n0 : 1 ≤ N := by omega
  have n1 : N ≤ 120 := by omega
  by_cases hl : m = (dvs N).length
  · obtain ⟨Z, len, hZ, hlen⟩ := zOf (dvs N) 0
    obtain rfl : len = m := by omega
    have dz : DvZ N Z len := ⟨hZ, hlen⟩
    obtain ⟨r, p⟩ := MuSpec.ex N Z R len a b c d
    refine ⟨r, Mult_ok N n0 n1 Z R len dz a b c d hR r p, fun hs => rMult_ok N n0 n1 Z R len dz a b c d hR hs r p, ?_⟩
    rcases p.two with ⟨e, _, h⟩ | ⟨_, _, _, _, h⟩
    · exact .inl ⟨e, h⟩
    · exact .inr ⟨_, mulV_QB _ _, h⟩
  · exact ⟨_, Mult_shape N n0 n1 R m a b c d hl, fun _ => rMult_shape N n0 n1 R m a b c d hl, .inl ⟨_, rfl⟩⟩
set_option maxHeartbeats 8000000 in
theorem law_multiplier (n : Int) (R : Nat → Int) (m : Nat) (hR : ∀ i, i < m → I64 (R i)) (a b c d : Int) : Sp CX 8 [int .i64 n, isA R m, mA a b c d] (bool true) := by
  have aw := daw_sp
  by_cases hm : 100 < m
  · refine fn_sp (C := CX) [] [] tysX_ok mixed Try.func8 rfl (by kernel_rfl) Try.ntmps8 rfl rfl ?_
    repeat' ((conv => whnf); first | refine Ob.g ?_ | refine WrOb.g ?_ | refine WrOb.u32 ?_ | refine WrOb.u64 ?_ | refine Cases.y ?_ | refine Cases.n ?_ | refine Idx.g rfl ?_ | refine Idx.z rfl ?_ | refine DrawOb.start ?_ | refine TryF.f ?_ | refine TryF.next rfl ?_ | refine TryF.other ?_ | refine TryA.g ?_ | refine TryA.next rfl ?_ | refine TryA.other ?_ | refine TryS.g ?_ | refine TryS.next rfl ?_ | refine TryS.other ?_ | refine TryG.g ?_ | refine TryG.next rfl ?_ | refine TryG.other ?_ | refine TryT.g ?_ | refine TryT.z ?_ | refine EmpOb.mk rfl ?_ | refine Sp.g (aw) ?_)
    refine ⟨⟨_, _, rfl, rfl, ?_⟩⟩
    exact AvLe.refl _
  have ck := rCheck_sp a b c d
  have sm := Small_sp a b c d
  obtain ⟨r, s1, s2, hr⟩ := Mult_two n R m hR a b c d
  by_cases hs : SmlE a c d
  · have s3 := s2 fun _ => hs
    clear s2
    rw [decide_eq_true hs] at sm
    rcases hr with ⟨e, rfl⟩ | ⟨v, qv, rfl⟩
    · have z := sameQ0
      refine fn_sp (C := CX) [] [] tysX_ok mixed Try.func8 rfl (by kernel_rfl) Try.ntmps8 rfl rfl ?_
      repeat' ((conv => whnf); first | refine Ob.g ?_ | refine WrOb.g ?_ | refine WrOb.u32 ?_ | refine WrOb.u64 ?_ | refine Cases.y ?_ | refine Cases.n ?_ | refine Idx.g rfl ?_ | refine Idx.z rfl ?_ | refine DrawOb.start ?_ | refine TryF.f ?_ | refine TryF.next rfl ?_ | refine TryF.other ?_ | refine TryA.g ?_ | refine TryA.next rfl ?_ | refine TryA.other ?_ | refine TryS.g ?_ | refine TryS.next rfl ?_ | refine TryS.other ?_ | refine TryG.g ?_ | refine TryG.next rfl ?_ | refine TryG.other ?_ | refine TryT.g ?_ | refine TryT.z ?_ | refine EmpOb.mk rfl ?_ | refine Sp.g (aw) ?_ | refine Sp.g (s1) ?_ | refine Sp.g (sm) ?_ | refine Sp.g (ck) ?_ | refine Sp.g (s3) ?_ | refine Sp.g (z) ?_)
      refine ⟨⟨_, _, rfl, rfl, ?_⟩⟩
      exact AvLe.refl _
    · have z := SameRat_sp v (qv.mono (by omega))
      refine fn_sp (C := CX) [] [] tysX_ok mixed Try.func8 rfl (by kernel_rfl) Try.ntmps8 rfl rfl ?_
      repeat' ((conv => whnf); first | refine Ob.g ?_ | refine WrOb.g ?_ | refine WrOb.u32 ?_ | refine WrOb.u64 ?_ | refine Cases.y ?_ | refine Cases.n ?_ | refine Idx.g rfl ?_ | refine Idx.z rfl ?_ | refine DrawOb.start ?_ | refine TryF.f ?_ | refine TryF.next rfl ?_ | refine TryF.other ?_ | refine TryA.g ?_ | refine TryA.next rfl ?_ | refine TryA.other ?_ | refine TryS.g ?_ | refine TryS.next rfl ?_ | refine TryS.other ?_ | refine TryG.g ?_ | refine TryG.next rfl ?_ | refine TryG.other ?_ | refine TryT.g ?_ | refine TryT.z ?_ | refine EmpOb.mk rfl ?_ | refine Sp.g (aw) ?_ | refine Sp.g (s1) ?_ | refine Sp.g (sm) ?_ | refine Sp.g (ck) ?_ | refine Sp.g (s3) ?_ | refine Sp.g (z) ?_)
      refine ⟨⟨_, _, rfl, rfl, ?_⟩⟩
      exact AvLe.refl _
  · rw [decide_eq_false hs] at sm
    by_cases hE : matE a b c d = 0
    · rw [hE] at ck
      clear s2
      rcases hr with ⟨e, rfl⟩ | ⟨v, qv, rfl⟩
      · refine fn_sp (C := CX) [] [] tysX_ok mixed Try.func8 rfl (by kernel_rfl) Try.ntmps8 rfl rfl ?_
        repeat' ((conv => whnf); first | refine Ob.g ?_ | refine WrOb.g ?_ | refine WrOb.u32 ?_ | refine WrOb.u64 ?_ | refine Cases.y ?_ | refine Cases.n ?_ | refine Idx.g rfl ?_ | refine Idx.z rfl ?_ | refine DrawOb.start ?_ | refine TryF.f ?_ | refine TryF.next rfl ?_ | refine TryF.other ?_ | refine TryA.g ?_ | refine TryA.next rfl ?_ | refine TryA.other ?_ | refine TryS.g ?_ | refine TryS.next rfl ?_ | refine TryS.other ?_ | refine TryG.g ?_ | refine TryG.next rfl ?_ | refine TryG.other ?_ | refine TryT.g ?_ | refine TryT.z ?_ | refine EmpOb.mk rfl ?_ | refine Sp.g (aw) ?_ | refine Sp.g (s1) ?_ | refine Sp.g (sm) ?_ | refine Sp.g (ck) ?_)
        refine ⟨⟨_, _, rfl, rfl, ?_⟩⟩
        exact AvLe.refl _
      · refine fn_sp (C := CX) [] [] tysX_ok mixed Try.func8 rfl (by kernel_rfl) Try.ntmps8 rfl rfl ?_
        repeat' ((conv => whnf); first | refine Ob.g ?_ | refine WrOb.g ?_ | refine WrOb.u32 ?_ | refine WrOb.u64 ?_ | refine Cases.y ?_ | refine Cases.n ?_ | refine Idx.g rfl ?_ | refine Idx.z rfl ?_ | refine DrawOb.start ?_ | refine TryF.f ?_ | refine TryF.next rfl ?_ | refine TryF.other ?_ | refine TryA.g ?_ | refine TryA.next rfl ?_ | refine TryA.other ?_ | refine TryS.g ?_ | refine TryS.next rfl ?_ | refine TryS.other ?_ | refine TryG.g ?_ | refine TryG.next rfl ?_ | refine TryG.other ?_ | refine TryT.g ?_ | refine TryT.z ?_ | refine EmpOb.mk rfl ?_ | refine Sp.g (aw) ?_ | refine Sp.g (s1) ?_ | refine Sp.g (sm) ?_ | refine Sp.g (ck) ?_)
        refine ⟨⟨_, _, rfl, rfl, ?_⟩⟩
        exact AvLe.refl _
    · have s3 := s2 fun h => absurd h hE
      clear s2
      generalize matE a b c d = x at *
      rcases hr with ⟨e, rfl⟩ | ⟨v, qv, rfl⟩
      · have z := sameQ0
        refine fn_sp (C := CX) [] [] tysX_ok mixed Try.func8 rfl (by kernel_rfl) Try.ntmps8 rfl rfl ?_
        repeat' ((conv => whnf); first | refine Ob.g ?_ | refine WrOb.g ?_ | refine WrOb.u32 ?_ | refine WrOb.u64 ?_ | refine Cases.y ?_ | refine Cases.n ?_ | refine Idx.g rfl ?_ | refine Idx.z rfl ?_ | refine DrawOb.start ?_ | refine TryF.f ?_ | refine TryF.next rfl ?_ | refine TryF.other ?_ | refine TryA.g ?_ | refine TryA.next rfl ?_ | refine TryA.other ?_ | refine TryS.g ?_ | refine TryS.next rfl ?_ | refine TryS.other ?_ | refine TryG.g ?_ | refine TryG.next rfl ?_ | refine TryG.other ?_ | refine TryT.g ?_ | refine TryT.z ?_ | refine EmpOb.mk rfl ?_ | refine Sp.g (aw) ?_ | refine Sp.g (s1) ?_ | refine Sp.g (sm) ?_ | refine Sp.g (ck) ?_ | refine Sp.g (s3) ?_ | refine Sp.g (z) ?_)
        refine ⟨⟨_, _, rfl, rfl, ?_⟩⟩
        exact AvLe.refl _
      · have z := SameRat_sp v (qv.mono (by omega))
        refine fn_sp (C := CX) [] [] tysX_ok mixed Try.func8 rfl (by kernel_rfl) Try.ntmps8 rfl rfl ?_
        repeat' ((conv => whnf); first | refine Ob.g ?_ | refine WrOb.g ?_ | refine WrOb.u32 ?_ | refine WrOb.u64 ?_ | refine Cases.y ?_ | refine Cases.n ?_ | refine Idx.g rfl ?_ | refine Idx.z rfl ?_ | refine DrawOb.start ?_ | refine TryF.f ?_ | refine TryF.next rfl ?_ | refine TryF.other ?_ | refine TryA.g ?_ | refine TryA.next rfl ?_ | refine TryA.other ?_ | refine TryS.g ?_ | refine TryS.next rfl ?_ | refine TryS.other ?_ | refine TryG.g ?_ | refine TryG.next rfl ?_ | refine TryG.other ?_ | refine TryT.g ?_ | refine TryT.z ?_ | refine EmpOb.mk rfl ?_ | refine Sp.g (aw) ?_ | refine Sp.g (s1) ?_ | refine Sp.g (sm) ?_ | refine Sp.g (ck) ?_ | refine Sp.g (s3) ?_ | refine Sp.g (z) ?_)
        refine ⟨⟨_, _, rfl, rfl, ?_⟩⟩
        exact AvLe.refl _
theorem cMults (n : Int) (R : Nat → Int) (m : Nat) (hR : ∀ i, I64 (R i)) (a b c d : Int) : Sp CX 8 [int .i64 n, isA R m, mA a b c d] (bool true) := law_multiplier n R m (fun i _ => hR i) a b c d
end Go.Proofs.Ythfnbpnplbbibaa

