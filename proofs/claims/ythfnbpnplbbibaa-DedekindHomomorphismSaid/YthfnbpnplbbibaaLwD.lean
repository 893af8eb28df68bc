/- The laws of Dedekind sums in letters: Homomorphism. -/
import Derived.Test.YthfnbpnplbbibaaLwC
namespace Go.Proofs.Ythfnbpnplbbibaa
open Go Go.RowKit Go.VG HP
def xyA (a b c d e f g h : Int) : AV := .v (.agg [ix a, ix b, ix c, ix d, ix e, ix f, ix g, ix h])
/-- a multiplier, or what is wrong -/
theorem MuSpec.two {n : Nat} {Z : Nat → Nat} {R : Nat → Int} {len : Nat} {a b c d : Int} {r : AV} (h : MuSpec n Z R len a b c d r) :
    (∃ e, e ≠ 0 ∧ r = muErr e) ∨ ((∀ i, i < len → -200 ≤ R i ∧ R i ≤ 200) ∧ totS (prs Z R len) % 2 = 0 ∧ matE a b c d = 0 ∧ (n : Int) ∣ c ∧ r = mulO Z R len a b c d) := by
  rcases h with ⟨_, rfl⟩ | ⟨h1, ⟨_, rfl⟩ | ⟨h2, ⟨h3, rfl⟩ | ⟨h3, ⟨_, rfl⟩ | ⟨h4, rfl⟩⟩⟩⟩
  · exact .inl ⟨2, by omega, rfl⟩
  · exact .inl ⟨6, by omega, rfl⟩
  · exact .inl ⟨_, h3, rfl⟩
  · exact .inl ⟨12, by omega, rfl⟩
  · exact .inr ⟨h1, h2, h3, h4, rfl⟩
theorem mulV_QB (m : Mx) (l : List (Int × Int)) : QB 1 (mulV m l) := frp24_QB _
theorem mulV_ge (m : Mx) (l : List (Int × Int)) : 0 ≤ (mulV m l).num.sign := by
  have h := (frp_bd ((psiS m l : Rat) / ((24 : Int) : Rat))).1
  have h2 : 0 ≤ (mulV m l).num := Rat.num_nonneg.2 h
  have := sgn_tri (mulV m l).num
  omega
theorem mulV_lt (m : Mx) (l : List (Int × Int)) : (mulV m l - ((1 : Int) : Rat)).num.sign = -1 := by
  have h := (frp_bd ((psiS m l : Rat) / ((24 : Int) : Rat))).2
  have h2 : mulV m l < ((1 : Int) : Rat) := h
  have h3 := (rat_cmp (a := mulV m l) (b := ((1 : Int) : Rat))).1.2 h2
  exact Int.sign_eq_neg_one_of_neg h3
set_option maxHeartbeats 8000000 in
theorem law_hom (n : Int) (R : Nat → Int) (m : Nat) (hR : ∀ i, i < m → I64 (R i)) (a b c d e f g h : Int) : Sp CX 10 [int .i64 n, isA R m, xyA a b c d e f g h] (bool true) := by
  have aw := daw_sp
  by_cases hm : 100 < m
  · refine fn_sp (C := CX) [] [] tysX_ok mixed Try.func10 rfl (by kernel_rfl) Try.ntmps10 rfl rfl ?_
    repeat' ((conv => whnf); first | refine Ob.g ?_ | refine WrOb.g ?_ | refine WrOb.u32 ?_ | refine WrOb.u64 ?_ | refine Cases.y ?_ | refine Cases.n ?_ | refine Idx.g rfl ?_ | refine Idx.z rfl ?_ | refine DrawOb.start ?_ | refine TryF.f ?_ | refine TryF.next rfl ?_ | refine TryF.other ?_ | refine TryA.g ?_ | refine TryA.next rfl ?_ | refine TryA.other ?_ | refine TryS.g ?_ | refine TryS.next rfl ?_ | refine TryS.other ?_ | refine TryG.g ?_ | refine TryG.next rfl ?_ | refine TryG.other ?_ | refine TryT.g ?_ | refine Sp.g (aw) ?_)
    refine ⟨⟨_, _, rfl, rfl, ?_⟩⟩
    exact AvLe.refl _
  obtain ⟨p, q, r, s, t, i3, s3⟩ := MMul_gen a b c d e f g h
  by_cases hn : n < 1 ∨ 120 < n
  · have s1 := Mult_range n R m a b c d hn
    have s2 := Mult_range n R m e f g h hn
    clear i3
    refine fn_sp (C := CX) [] [] tysX_ok mixed Try.func10 rfl (by kernel_rfl) Try.ntmps10 rfl rfl ?_
    repeat' ((conv => whnf); first | (refine Idx.mk ⟨1, rfl, by decide, ?_⟩) | (refine Idx.mk ⟨0, rfl, by decide, ?_⟩) | refine Ob.g ?_ | refine WrOb.g ?_ | refine WrOb.u32 ?_ | refine WrOb.u64 ?_ | refine Cases.y ?_ | refine Cases.n ?_ | refine Idx.g rfl ?_ | refine Idx.z rfl ?_ | refine DrawOb.start ?_ | refine TryF.f ?_ | refine TryF.next rfl ?_ | refine TryF.other ?_ | refine TryA.g ?_ | refine TryA.next rfl ?_ | refine TryA.other ?_ | refine TryS.g ?_ | refine TryS.next rfl ?_ | refine TryS.other ?_ | refine TryG.g ?_ | refine TryG.next rfl ?_ | refine TryG.other ?_ | refine TryT.g ?_ | refine Sp.g (aw) ?_ | refine Sp.g (s1) ?_ | refine Sp.g (s2) ?_ | refine Sp.g (s3) ?_)
    refine ⟨⟨_, _, rfl, rfl, ?_⟩⟩
    exact AvLe.refl _
  obtain ⟨N, rfl⟩ : ∃ N : Nat, n = N := ⟨n.toNat, by omega⟩
  have n0 : 1 ≤ N := by omega
  have n1 : N ≤ 120 := by omega
  by_cases hl : m = (dvs N).length
  · obtain ⟨Z, len, hZ, hlen⟩ := zOf (dvs N) 0
    obtain rfl : len = m := by omega
    have dz : DvZ N Z len := ⟨hZ, hlen⟩
    obtain ⟨r1, p1⟩ := MuSpec.ex N Z R len a b c d
    obtain ⟨r2, p2⟩ := MuSpec.ex N Z R len e f g h
    have s1 := Mult_ok N n0 n1 Z R len dz a b c d hR r1 p1
    have s2 := Mult_ok N n0 n1 Z R len dz e f g h hR r2 p2
    rcases p1.two with ⟨e1, ne1, rfl⟩ | ⟨g1, t1, k1, d1, rfl⟩
    · rcases p2.two with ⟨e2, ne2, rfl⟩ | ⟨g2, t2, k2, d2, rfl⟩
      · clear p1 p2 i3 dz hZ
        refine fn_sp (C := CX) [] [] tysX_ok mixed Try.func10 rfl (by kernel_rfl) Try.ntmps10 rfl rfl ?_
        repeat' ((conv => whnf); first | (refine Idx.mk ⟨1, rfl, by decide, ?_⟩) | (refine Idx.mk ⟨0, rfl, by decide, ?_⟩) | refine Ob.g ?_ | refine WrOb.g ?_ | refine WrOb.u32 ?_ | refine WrOb.u64 ?_ | refine Cases.y ?_ | refine Cases.n ?_ | refine Idx.g rfl ?_ | refine Idx.z rfl ?_ | refine DrawOb.start ?_ | refine TryF.f ?_ | refine TryF.next rfl ?_ | refine TryF.other ?_ | refine TryA.g ?_ | refine TryA.next rfl ?_ | refine TryA.other ?_ | refine TryS.g ?_ | refine TryS.next rfl ?_ | refine TryS.other ?_ | refine TryG.g ?_ | refine TryG.next rfl ?_ | refine TryG.other ?_ | refine TryT.g ?_ | refine Sp.g (aw) ?_ | refine Sp.g (s1) ?_ | refine Sp.g (s2) ?_ | refine Sp.g (s3) ?_)
        refine ⟨⟨_, _, rfl, rfl, ?_⟩⟩
        exact AvLe.refl _
      · unfold mulO at s2
        generalize mulV _ _ = v2 at *
        clear p1 p2 i3 dz hZ
        refine fn_sp (C := CX) [] [] tysX_ok mixed Try.func10 rfl (by kernel_rfl) Try.ntmps10 rfl rfl ?_
        repeat' ((conv => whnf); first | (refine Idx.mk ⟨1, rfl, by decide, ?_⟩) | (refine Idx.mk ⟨0, rfl, by decide, ?_⟩) | refine Ob.g ?_ | refine WrOb.g ?_ | refine WrOb.u32 ?_ | refine WrOb.u64 ?_ | refine Cases.y ?_ | refine Cases.n ?_ | refine Idx.g rfl ?_ | refine Idx.z rfl ?_ | refine DrawOb.start ?_ | refine TryF.f ?_ | refine TryF.next rfl ?_ | refine TryF.other ?_ | refine TryA.g ?_ | refine TryA.next rfl ?_ | refine TryA.other ?_ | refine TryS.g ?_ | refine TryS.next rfl ?_ | refine TryS.other ?_ | refine TryG.g ?_ | refine TryG.next rfl ?_ | refine TryG.other ?_ | refine TryT.g ?_ | refine Sp.g (aw) ?_ | refine Sp.g (s1) ?_ | refine Sp.g (s2) ?_ | refine Sp.g (s3) ?_)
        refine ⟨⟨_, _, rfl, rfl, ?_⟩⟩
        exact AvLe.refl _
    · rcases p2.two with ⟨e2, ne2, rfl⟩ | ⟨g2, t2, k2, d2, rfl⟩
      · unfold mulO at s1
        generalize mulV _ _ = v1 at *
        clear p1 p2 i3 dz hZ
        refine fn_sp (C := CX) [] [] tysX_ok mixed Try.func10 rfl (by kernel_rfl) Try.ntmps10 rfl rfl ?_
        repeat' ((conv => whnf); first | (refine Idx.mk ⟨1, rfl, by decide, ?_⟩) | (refine Idx.mk ⟨0, rfl, by decide, ?_⟩) | refine Ob.g ?_ | refine WrOb.g ?_ | refine WrOb.u32 ?_ | refine WrOb.u64 ?_ | refine Cases.y ?_ | refine Cases.n ?_ | refine Idx.g rfl ?_ | refine Idx.z rfl ?_ | refine DrawOb.start ?_ | refine TryF.f ?_ | refine TryF.next rfl ?_ | refine TryF.other ?_ | refine TryA.g ?_ | refine TryA.next rfl ?_ | refine TryA.other ?_ | refine TryS.g ?_ | refine TryS.next rfl ?_ | refine TryS.other ?_ | refine TryG.g ?_ | refine TryG.next rfl ?_ | refine TryG.other ?_ | refine TryT.g ?_ | refine Sp.g (aw) ?_ | refine Sp.g (s1) ?_ | refine Sp.g (s2) ?_ | refine Sp.g (s3) ?_)
        refine ⟨⟨_, _, rfl, rfl, ?_⟩⟩
        exact AvLe.refl _
      · by_cases ht : t = 0
        · obtain ⟨f1, f2, f3⟩ := i3 ht
          have s3' := MMul_ok a b c d e f g h f1 f2 f3
          have det1 := (mat_ok k1).2
          have det2 := (mat_ok k2).2
          have k3 := matE_ok f3 (det_mul det1 det2)
          have d3 : (N : Int) ∣ c * e + d * g := Int.dvd_add (Int.dvd_trans d1 ⟨e, rfl⟩) (Int.dvd_trans d2 ⟨d, Int.mul_comm _ _⟩)
          have s4 := Mult_ok N n0 n1 Z R len dz (a * e + b * g) (a * f + b * h) (c * e + d * g) (c * f + d * h) hR (mulO Z R len (a * e + b * g) (a * f + b * h) (c * e + d * g) (c * f + d * h)) (.inr ⟨g1, .inr ⟨t1, .inr ⟨k3, .inr ⟨d3, rfl⟩⟩⟩⟩)
          have law := mulV_mul (x := ⟨a, b, c, d⟩) (y := ⟨e, f, g, h⟩) det1 det2 (l := prs Z R len) (fun p hp => by
            obtain ⟨j, hj, rfl⟩ := prs_mem hp
            obtain ⟨z1, z2, _⟩ := dz.at n0 hj
            exact ⟨by show (0 : Int) < (Z j : Int); omega, Int.dvd_trans (Int.natCast_dvd_natCast.2 z2) d1, Int.dvd_trans (Int.natCast_dvd_natCast.2 z2) d2⟩) (by omega)
          obtain ⟨k, hk⟩ := law
          have hk' : mulV ⟨a, b, c, d⟩ (prs Z R len) + mulV ⟨e, f, g, h⟩ (prs Z R len) - mulV ⟨a * e + b * g, a * f + b * h, c * e + d * g, c * f + d * h⟩ (prs Z R len) = (k : Rat) := hk
          have Q1 := mulV_QB ⟨a, b, c, d⟩ (prs Z R len)
          have Q2 := mulV_QB ⟨e, f, g, h⟩ (prs Z R len)
          have Q3 := mulV_QB ⟨a * e + b * g, a * f + b * h, c * e + d * g, c * f + d * h⟩ (prs Z R len)
          have g3 := mulV_ge ⟨a * e + b * g, a * f + b * h, c * e + d * g, c * f + d * h⟩ (prs Z R len)
          have l3 := mulV_lt ⟨a * e + b * g, a * f + b * h, c * e + d * g, c * f + d * h⟩ (prs Z R len)
          unfold mulO at s1 s2 s4
          generalize mulV ⟨a, b, c, d⟩ (prs Z R len) = v1 at *
          generalize mulV ⟨e, f, g, h⟩ (prs Z R len) = v2 at *
          generalize mulV ⟨a * e + b * g, a * f + b * h, c * e + d * g, c * f + d * h⟩ (prs Z R len) = v3 at *
          have ad := RAdd_sp v1 v2 (Q1.mono (by omega)) (Q2.mono (by omega))
          have su := RSub_sp (v1 + v2) v3 ((Q1.add Q2).mono (by omega)) (Q3.mono (by omega))
          rw [hk'] at su
          have Qk := (Q1.add Q2).sub Q3
          rw [hk'] at Qk
          have lk : ln k.natAbs ≤ 5 := by
            have h := Qk.1
            rw [Rat.num_intCast] at h
            exact h
          have it := Integer_sp k (by omega)
          have sg := RSign_sp v3 (Q3.mono (by omega))
          have o1 := ROf_sp 1 (by omega) (by omega)
          have cm := RCmp_sp v3 ((1 : Int) : Rat) (Q3.mono (by omega)) ((QB.i64 (n := 1) (by omega) (by omega)).mono (by omega))
          rw [l3] at cm
          generalize v3.num.sign = z3 at *
          clear hk hk' Q1 Q2 Q3 Qk lk l3 p1 p2 i3 dz hZ s3 k1 k2 k3 det1 det2 d1 d2 d3 f1 f2 f3
          refine fn_sp (C := CX) [] [] tysX_ok mixed Try.func10 rfl (by kernel_rfl) Try.ntmps10 rfl rfl ?_
          repeat' ((conv => whnf); first | (refine Idx.mk ⟨1, rfl, by decide, ?_⟩) | (refine Idx.mk ⟨0, rfl, by decide, ?_⟩) | refine Ob.g ?_ | refine WrOb.g ?_ | refine WrOb.u32 ?_ | refine WrOb.u64 ?_ | refine Cases.y ?_ | refine Cases.n ?_ | refine Idx.g rfl ?_ | refine Idx.z rfl ?_ | refine DrawOb.start ?_ | refine TryF.f ?_ | refine TryF.next rfl ?_ | refine TryF.other ?_ | refine TryA.g ?_ | refine TryA.next rfl ?_ | refine TryA.other ?_ | refine TryS.g ?_ | refine TryS.next rfl ?_ | refine TryS.other ?_ | refine TryG.g ?_ | refine TryG.next rfl ?_ | refine TryG.other ?_ | refine TryT.g ?_ | refine Sp.g (aw) ?_ | refine Sp.g (s1) ?_ | refine Sp.g (s2) ?_ | refine Sp.g (s3') ?_ | refine Sp.g (s4) ?_ | refine Sp.g (ad) ?_ | refine Sp.g (su) ?_ | refine Sp.g (it) ?_ | refine Sp.g (sg) ?_ | refine Sp.g (o1) ?_ | refine Sp.g (cm) ?_)
          refine ⟨⟨_, _, rfl, rfl, ?_⟩⟩
          exact AvLe.refl _
        · clear i3
          unfold mulO at s1 s2
          generalize mulV ⟨a, b, c, d⟩ _ = v1 at *
          generalize mulV ⟨e, f, g, h⟩ _ = v2 at *
          clear p1 p2 dz hZ
          refine fn_sp (C := CX) [] [] tysX_ok mixed Try.func10 rfl (by kernel_rfl) Try.ntmps10 rfl rfl ?_
          repeat' ((conv => whnf); first | (refine Idx.mk ⟨1, rfl, by decide, ?_⟩) | (refine Idx.mk ⟨0, rfl, by decide, ?_⟩) | refine Ob.g ?_ | refine WrOb.g ?_ | refine WrOb.u32 ?_ | refine WrOb.u64 ?_ | refine Cases.y ?_ | refine Cases.n ?_ | refine Idx.g rfl ?_ | refine Idx.z rfl ?_ | refine DrawOb.start ?_ | refine TryF.f ?_ | refine TryF.next rfl ?_ | refine TryF.other ?_ | refine TryA.g ?_ | refine TryA.next rfl ?_ | refine TryA.other ?_ | refine TryS.g ?_ | refine TryS.next rfl ?_ | refine TryS.other ?_ | refine TryG.g ?_ | refine TryG.next rfl ?_ | refine TryG.other ?_ | refine TryT.g ?_ | refine Sp.g (aw) ?_ | refine Sp.g (s1) ?_ | refine Sp.g (s2) ?_ | refine Sp.g (s3) ?_)
          refine ⟨⟨_, _, rfl, rfl, ?_⟩⟩
          exact AvLe.refl _
  · have s1 := Mult_shape N n0 n1 R m a b c d hl
    have s2 := Mult_shape N n0 n1 R m e f g h hl
    clear i3
    refine fn_sp (C := CX) [] [] tysX_ok mixed Try.func10 rfl (by kernel_rfl) Try.ntmps10 rfl rfl ?_
    repeat' ((conv => whnf); first | (refine Idx.mk ⟨1, rfl, by decide, ?_⟩) | (refine Idx.mk ⟨0, rfl, by decide, ?_⟩) | refine Ob.g ?_ | refine WrOb.g ?_ | refine WrOb.u32 ?_ | refine WrOb.u64 ?_ | refine Cases.y ?_ | refine Cases.n ?_ | refine Idx.g rfl ?_ | refine Idx.z rfl ?_ | refine DrawOb.start ?_ | refine TryF.f ?_ | refine TryF.next rfl ?_ | refine TryF.other ?_ | refine TryA.g ?_ | refine TryA.next rfl ?_ | refine TryA.other ?_ | refine TryS.g ?_ | refine TryS.next rfl ?_ | refine TryS.other ?_ | refine TryG.g ?_ | refine TryG.next rfl ?_ | refine TryG.other ?_ | refine TryT.g ?_ | refine Sp.g (aw) ?_ | refine Sp.g (s1) ?_ | refine Sp.g (s2) ?_ | refine Sp.g (s3) ?_)
    refine ⟨⟨_, _, rfl, rfl, ?_⟩⟩
    exact AvLe.refl _
theorem cHom (n : Int) (R : Nat → Int) (m : Nat) (hR : ∀ i, I64 (R i)) (a b c d e f g h : Int) : Sp CX 10 [int .i64 n, isA R m, xyA a b c d e f g h] (bool true) := law_hom n R m (fun i _ => hR i) a b c d e f g h
end Go.Proofs.Ythfnbpnplbbibaa
