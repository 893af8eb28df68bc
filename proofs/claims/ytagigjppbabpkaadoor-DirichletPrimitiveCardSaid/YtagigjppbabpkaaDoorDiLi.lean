/- Dirichlet characters: the laws of extended and primitive characters and of products, walked. -/
import Derived.Test.YtagigjppbabpkaaDoorPkDiLa
namespace Go.Proofs.YtagigjppbabpkaaDoor
open Go Go.RowKit Go.VG HP
theorem chz_arg {X : Nat → Int} : AvLe (.v (.agg [.x (.int .i64 0), .x (.slice none 0 0)])) (chA 0 X 0) := .agg (.cons (.refl _) (.cons .nil .nil))
set_option maxHeartbeats 8000000 in
theorem law_ext (N : Int) (X : Nat → Int) (l : Nat) (M a : Int) (hM1 : -9223372036854775808 ≤ M) (hM2 : M ≤ 9223372036854775807) (ha1 : -32768 ≤ a) (ha2 : a ≤ 32767) : Sp CX 8 [chA N X l, int .i64 M, int .i16 a] (bool true) := by
  have sa := awake28_sp
  by_cases hl : 100 < l
  · refine fn_sp (C := CX) [] [] tysX_ok mixed Tryd.func8 rfl (by kernel_rfl) Tryd.ntmps8 rfl rfl ?_
    repeat' ((conv => whnf); first | refine Ob.g ?_ | refine Cases.y ?_ | refine Cases.n ?_ | refine Idx.g rfl ?_ | refine Idx.z rfl ?_ | refine DrawOb.start ?_ | refine TryF.f ?_ | refine TryF.next rfl ?_ | refine TryF.other ?_ | refine TryA.g ?_ | refine TryA.next rfl ?_ | refine TryA.other ?_ | refine TryS.g ?_ | refine TryS.next rfl ?_ | refine TryS.other ?_ | refine TryG.g ?_ | refine TryG.next rfl ?_ | refine Sp.g (sa) ?_)
    refine ⟨⟨_, _, rfl, rfl, ?_⟩⟩
    exact AvLe.refl _
  · have s1 := Extend_sp N X l M hM1 hM2
    have s2 := rchk_sp N X l
    have s4 := same_sp 0 0 X (fun _ => 0) 0 0 (by omega)
    rw [decide_eq_true rfl, Bool.true_and, show eqI _ _ _ _ = true from eqI_iff.2 ⟨rfl, fun _ h => absurd h (Nat.not_lt_zero _)⟩] at s4
    by_cases hc : chkE N X l = 0
    · rw [hc] at s2
      have s3 := rmod28_sp M
      by_cases hr : M < 1 ∨ 60 < M
      · have e : exE N X l M = 2 := by unfold exE; rw [if_neg (fun h => h hc), if_pos hr]
        rw [e, if_neg (by omega)] at s1
        rw [if_pos hr] at s3
        clear e hr hc
        refine fn_sp (C := CX) [] [] tysX_ok mixed Tryd.func8 rfl (by kernel_rfl) Tryd.ntmps8 rfl rfl ?_
        repeat' ((conv => whnf); first | refine Ob.g ?_ | refine Cases.y ?_ | refine Cases.n ?_ | refine Idx.g rfl ?_ | refine Idx.z rfl ?_ | refine DrawOb.start ?_ | refine TryF.f ?_ | refine TryF.next rfl ?_ | refine TryF.other ?_ | refine TryA.g ?_ | refine TryA.next rfl ?_ | refine TryA.other ?_ | refine TryS.g ?_ | refine TryS.next rfl ?_ | refine TryS.other ?_ | refine TryG.g ?_ | refine TryG.next rfl ?_ | refine Sp.g (sa) ?_ | refine Sp.g (s1) ?_ | refine Sp.g (s2) ?_ | refine Sp.g (s3) ?_ | refine Sp.call (s4) (.cons (.refl _) (.cons chz_arg .nil)) rfl (AvLe.refl _) ?_)
        refine ⟨⟨_, _, rfl, rfl, ?_⟩⟩
        exact AvLe.refl _
      · rw [if_neg hr] at s3
        obtain ⟨n, rfl, ok⟩ := chk_out hc
        obtain ⟨m, rfl⟩ : ∃ m : Nat, M = m := ⟨M.toNat, by omega⟩
        have n0 := ok.n0
        have n1 := ok.n1
        have m0 : 1 ≤ m := by omega
        have m1 : m ≤ 60 := by omega
        have hmd : (m : Int).tmod n = ((m % n : Nat) : Int) := (Int.ofNat_tmod _ _).symm
        by_cases hd : m % n = 0
        · have e : exE n X l m = 0 := by unfold exE; rw [if_neg (fun h => h hc), if_neg hr, hmd, hd, if_neg (fun h => h rfl)]
          rw [e, if_pos rfl, Int.toNat_natCast] at s1
          have hnm : n ∣ m := Nat.dvd_of_mod_eq_zero hd
          have H := agr_ext (E := fun i => (X i).toNat) n0 n1 m0 m1 hnm
          have hW : ∀ i, i < np m → (extW n X m i).toNat = exW n (fun i => (X i).toNat) m (fun i => genT m (prtAt m i)) i := fun i _ => by
            unfold extW
            simp only [Int.toNat_natCast]
          have hWI : ∀ i, extW n X m i = ((extW n X m i).toNat : Int) := fun i => by unfold extW; simp only [Int.toNat_natCast]
          have s5 := rwith_sp ok m m0 m1 (fun i hi => ⟨0, lift_zero (H.cop i hi)⟩)
          have hl2 := np_le m1
          have s6 := same_sp m m (extW n X m) (withW n (fun i => (X i).toNat) m) (np m) (np m) (by omega)
          have he : eqI (extW n X m) (np m) (withW n (fun i => (X i).toNat) m) (np m) = true := eqI_iff.2 ⟨rfl, fun i hi => by
            have hcop : Nat.gcd (genT m (prtAt m i)) n = 1 := H.cop i hi
            unfold extW withW
            rw [Int.toNat_natCast]
            congr 1
            unfold exW
            simp only [liftT_zero hcop]⟩
          rw [decide_eq_true rfl, Bool.true_and, he] at s6
          have hck := chk_mk (X := extW n X m) (E := fun i => (extW n X m i).toNat) m0 m1 (fun i hi => ⟨hWI i, by
            show (extW n X m i).toNat < _
            rw [hW i hi]; exact agr_lt H hi⟩)
          have s7 := Value_sp n X l a
          have s8 := Value_sp m (extW n X m) (np m) a
          have v7 : vR n X l a = (valR n (fun i => (X i).toNat) a, 0) := by unfold vR; rw [if_neg (by rw [hc]; simp), if_neg (by omega)]; rfl
          have v8 : vR m (extW n X m) (np m) a = (valR m (fun i => (extW n X m i).toNat) a, 0) := by unfold vR; rw [if_neg (by rw [hck]; simp), if_neg (by omega)]; rfl
          rw [v7] at s7
          rw [v8] at s8
          have s9 := gcd18_sp a m (by omega) (by omega) (by omega) (by omega)
          have hag := fun gm => agr_valI H hnm hW (a := a) gm
          generalize hp : valR n (fun i => (X i).toNat) a = p at *
          generalize hq : valR m (fun i => (extW n X m i).toNat) a = q at *
          generalize hw1 : extW n X m = W1 at *
          generalize hw2 : withW n (fun i => (X i).toNat) m = W2 at *
          clear hw1 hw2 hp hq v7 v8 hck he hW hWI H e hr hc ok hnm
          by_cases hpq : q = p
          · subst hpq
            clear hag
            refine fn_sp (C := CX) [] [] tysX_ok mixed Tryd.func8 rfl (by kernel_rfl) Tryd.ntmps8 rfl rfl ?_
            repeat' ((conv => whnf); first | refine Ob.g ?_ | refine Cases.y ?_ | refine Cases.n ?_ | refine Idx.g rfl ?_ | refine Idx.z rfl ?_ | refine DrawOb.start ?_ | refine TryF.f ?_ | refine TryF.next rfl ?_ | refine TryF.other ?_ | refine TryA.g ?_ | refine TryA.next rfl ?_ | refine TryA.other ?_ | refine TryS.g ?_ | refine TryS.next rfl ?_ | refine TryS.other ?_ | refine TryG.g ?_ | refine TryG.next rfl ?_ | refine Sp.g (sa) ?_ | refine Sp.g (s1) ?_ | refine Sp.g (s2) ?_ | refine Sp.g (s3) ?_ | refine Sp.g (s5) ?_ | refine Sp.g (s6) ?_ | refine Sp.g (s7) ?_ | refine Sp.g (s8) ?_ | (refine ru_self q ?_))
            refine ⟨⟨_, _, rfl, rfl, ?_⟩⟩
            exact AvLe.refl _
          · have hg : Int.gcd a m ≠ 1 := fun h => hpq (hag h)
            have hdq : decide (p = q) = false := decide_eq_false fun h => hpq h.symm
            clear hag
            generalize Int.gcd a m = g at *
            refine fn_sp (C := CX) [] [] tysX_ok mixed Tryd.func8 rfl (by kernel_rfl) Tryd.ntmps8 rfl rfl ?_
            repeat' ((conv => whnf); first | refine Ob.g ?_ | refine Cases.y ?_ | refine Cases.n ?_ | refine Idx.g rfl ?_ | refine Idx.z rfl ?_ | refine DrawOb.start ?_ | refine TryF.f ?_ | refine TryF.next rfl ?_ | refine TryF.other ?_ | refine TryA.g ?_ | refine TryA.next rfl ?_ | refine TryA.other ?_ | refine TryS.g ?_ | refine TryS.next rfl ?_ | refine TryS.other ?_ | refine TryG.g ?_ | refine TryG.next rfl ?_ | refine Sp.g (sa) ?_ | refine Sp.g (s1) ?_ | refine Sp.g (s2) ?_ | refine Sp.g (s3) ?_ | refine Sp.g (s5) ?_ | refine Sp.g (s6) ?_ | refine Sp.g (s7) ?_ | refine Sp.g (s8) ?_ | refine Sp.g (s9) ?_ | (refine ru_eqob p q ?_))
            refine ⟨⟨_, _, rfl, rfl, ?_⟩⟩
            exact AvLe.bool (show (!decide ((g : Int) = 1)) = true by rw [decide_eq_false (by omega)]; rfl)
        · have e : exE n X l m = 14 := by unfold exE; rw [if_neg (fun h => h hc), if_neg hr, hmd, if_pos (by omega)]
          rw [e, if_neg (by omega)] at s1
          clear e hr hc
          refine fn_sp (C := CX) [] [] tysX_ok mixed Tryd.func8 rfl (by kernel_rfl) Tryd.ntmps8 rfl rfl ?_
          repeat' ((conv => whnf); first | refine Ob.g ?_ | refine Cases.y ?_ | refine Cases.n ?_ | refine Idx.g rfl ?_ | refine Idx.z rfl ?_ | refine DrawOb.start ?_ | refine TryF.f ?_ | refine TryF.next rfl ?_ | refine TryF.other ?_ | refine TryA.g ?_ | refine TryA.next rfl ?_ | refine TryA.other ?_ | refine TryS.g ?_ | refine TryS.next rfl ?_ | refine TryS.other ?_ | refine TryG.g ?_ | refine TryG.next rfl ?_ | refine Sp.g (sa) ?_ | refine Sp.g (s1) ?_ | refine Sp.g (s2) ?_ | refine Sp.g (s3) ?_ | refine Sp.call (s4) (.cons (.refl _) (.cons chz_arg .nil)) rfl (AvLe.refl _) ?_)
          refine ⟨⟨_, _, rfl, rfl, ?_⟩⟩
          exact AvLe.refl _
    · have e : exE N X l M = chkE N X l := by unfold exE; rw [if_pos hc]
      rw [e, if_neg hc] at s1
      clear e
      generalize chkE N X l = e at *
      refine fn_sp (C := CX) [] [] tysX_ok mixed Tryd.func8 rfl (by kernel_rfl) Tryd.ntmps8 rfl rfl ?_
      repeat' ((conv => whnf); first | refine Ob.g ?_ | refine Cases.y ?_ | refine Cases.n ?_ | refine Idx.g rfl ?_ | refine Idx.z rfl ?_ | refine DrawOb.start ?_ | refine TryF.f ?_ | refine TryF.next rfl ?_ | refine TryF.other ?_ | refine TryA.g ?_ | refine TryA.next rfl ?_ | refine TryA.other ?_ | refine TryS.g ?_ | refine TryS.next rfl ?_ | refine TryS.other ?_ | refine TryG.g ?_ | refine TryG.next rfl ?_ | refine Sp.g (sa) ?_ | refine Sp.g (s1) ?_ | refine Sp.g (s2) ?_ | refine Sp.call (s4) (.cons (.refl _) (.cons chz_arg .nil)) rfl (AvLe.refl _) ?_)
      refine ⟨⟨_, _, rfl, rfl, ?_⟩⟩
      exact AvLe.refl _
set_option maxHeartbeats 8000000 in
theorem law_prim (N : Int) (X : Nat → Int) (l : Nat) : Sp CX 9 [chA N X l] (bool true) := by
  have sa := awake28_sp
  by_cases hl : 100 < l
  · refine fn_sp (C := CX) [] [] tysX_ok mixed Tryd.func9 rfl (by kernel_rfl) Tryd.ntmps9 rfl rfl ?_
    repeat' ((conv => whnf); first | refine Ob.g ?_ | refine Cases.y ?_ | refine Cases.n ?_ | refine Idx.g rfl ?_ | refine Idx.z rfl ?_ | refine DrawOb.start ?_ | refine TryF.f ?_ | refine TryF.next rfl ?_ | refine TryF.other ?_ | refine TryA.g ?_ | refine TryA.next rfl ?_ | refine TryA.other ?_ | refine TryS.g ?_ | refine TryS.next rfl ?_ | refine TryS.other ?_ | refine TryG.g ?_ | refine TryG.next rfl ?_ | refine Sp.g (sa) ?_)
    refine ⟨⟨_, _, rfl, rfl, ?_⟩⟩
    exact AvLe.refl _
  · have s1 := Primitive_sp N X l
    have s2 := rchk_sp N X l
    by_cases hc : chkE N X l = 0
    · obtain ⟨n, rfl, ok⟩ := chk_out hc
      rw [hc, if_pos rfl, Int.toNat_natCast] at s1
      rw [hc] at s2
      have n0 := ok.n0
      have n1 := ok.n1
      have hlen := ok.len
      obtain ⟨E, hE⟩ : ∃ E, E = fun i => (X i).toNat := ⟨_, rfl⟩
      rw [← hE] at s1 ok
      have hex := ok.ex
      have s3 := rcnd_sp ok
      obtain ⟨d1, d2, d3⟩ := cnd_dvd n0 n1 E
      have hpw : ∀ i, priW n X (cnd n E) i = (exW n E (cnd n E) (fun i => liftT n (cnd n E) (genT (cnd n E) (prtAt (cnd n E) i))) i : Nat) := fun i => by
        unfold priW
        rw [Int.toNat_natCast, ← hE]
      have P := pri_ok n0 n1 (fun i hi => (hex i hi).2) (W := fun i => (priW n X (cnd n E) i).toNat) (fun i _ => by rw [hpw, Int.toNat_natCast])
      have s4 := rwith_sp ok (cnd n E) d2 d3 (fun i hi => lift_at n0 n1 d1 d2 d3 hi)
      have hl2 := np_le d3
      have hl3 := np_le n1
      have s5 := same_sp (cnd n E : Nat) (cnd n E : Nat) (priW n X (cnd n E)) (withW n E (cnd n E)) (np (cnd n E)) (np (cnd n E)) (by omega)
      have he : eqI (priW n X (cnd n E)) (np (cnd n E)) (withW n E (cnd n E)) (np (cnd n E)) = true := eqI_iff.2 ⟨rfl, fun i _ => hpw i⟩
      rw [decide_eq_true rfl, Bool.true_and, he] at s5
      have hck := chk_mk (n := cnd n E) (X := priW n X (cnd n E)) (E := fun i => (priW n X (cnd n E) i).toNat) d2 d3 (fun i hi => ⟨by
        show priW n X (cnd n E) i = ((priW n X (cnd n E) i).toNat : Int)
        rw [hpw, Int.toNat_natCast], P.lt i hi⟩)
      have s6 := Conductor_sp (cnd n E : Nat) (priW n X (cnd n E)) (np (cnd n E))
      rw [hck, if_pos rfl, Int.toNat_natCast, P.cnd] at s6
      have s7 := Extend_sp (cnd n E : Nat) (priW n X (cnd n E)) (np (cnd n E)) n (by omega) (by omega)
      have hex0 : exE (cnd n E : Nat) (priW n X (cnd n E)) (np (cnd n E)) n = 0 := by
        unfold exE
        have hz : ((n : Nat) : Int).tmod (cnd n E : Nat) = 0 := by
          rw [show ((n : Nat) : Int).tmod (cnd n E : Nat) = ((n % cnd n E : Nat) : Int) from (Int.ofNat_tmod _ _).symm, Nat.mod_eq_zero_of_dvd d1]; rfl
        rw [hck, if_neg (fun h => h rfl), if_neg (by omega), hz, if_neg (fun h => h rfl)]
      rw [hex0, if_pos rfl, Int.toNat_natCast] at s7
      have s8 := same_sp n n (extW (cnd n E : Nat) (priW n X (cnd n E)) n) X (np n) l (by omega)
      have he8 : eqI (extW (cnd n E : Nat) (priW n X (cnd n E)) n) (np n) X l = true := eqI_iff.2 ⟨hlen.symm, fun i hi => by
        unfold extW
        rw [Int.toNat_natCast, P.back i hi, (hex i hi).1]⟩
      rw [decide_eq_true rfl, Bool.true_and, he8] at s8
      generalize extW (cnd n E : Nat) (priW n X (cnd n E)) n = W3 at *
      generalize priW n X (cnd n E) = W1 at *
      generalize withW n E (cnd n E) = W2 at *
      generalize cnd n E = f at *
      clear P hpw hck hex0 he8 he hc ok hex hE
      refine fn_sp (C := CX) [] [] tysX_ok mixed Tryd.func9 rfl (by kernel_rfl) Tryd.ntmps9 rfl rfl ?_
      repeat' ((conv => whnf); first | refine Ob.g ?_ | refine Cases.y ?_ | refine Cases.n ?_ | refine Idx.g rfl ?_ | refine Idx.z rfl ?_ | refine DrawOb.start ?_ | refine TryF.f ?_ | refine TryF.next rfl ?_ | refine TryF.other ?_ | refine TryA.g ?_ | refine TryA.next rfl ?_ | refine TryA.other ?_ | refine TryS.g ?_ | refine TryS.next rfl ?_ | refine TryS.other ?_ | refine TryG.g ?_ | refine TryG.next rfl ?_ | refine Sp.g (sa) ?_ | refine Sp.g (s1) ?_ | refine Sp.g (s2) ?_ | refine Sp.g (s3) ?_ | refine Sp.g (s4) ?_ | refine Sp.g (s5) ?_ | refine Sp.g (s6) ?_ | refine Sp.g (s7) ?_ | refine Sp.g (s8) ?_)
      refine ⟨⟨_, _, rfl, rfl, ?_⟩⟩
      exact AvLe.refl _
    · rw [if_neg hc] at s1
      have s4 := same_sp 0 0 X (fun _ => 0) 0 0 (by omega)
      rw [decide_eq_true rfl, Bool.true_and, show eqI _ _ _ _ = true from eqI_iff.2 ⟨rfl, fun _ h => absurd h (Nat.not_lt_zero _)⟩] at s4
      generalize chkE N X l = e at *
      refine fn_sp (C := CX) [] [] tysX_ok mixed Tryd.func9 rfl (by kernel_rfl) Tryd.ntmps9 rfl rfl ?_
      repeat' ((conv => whnf); first | refine Ob.g ?_ | refine Cases.y ?_ | refine Cases.n ?_ | refine Idx.g rfl ?_ | refine Idx.z rfl ?_ | refine DrawOb.start ?_ | refine TryF.f ?_ | refine TryF.next rfl ?_ | refine TryF.other ?_ | refine TryA.g ?_ | refine TryA.next rfl ?_ | refine TryA.other ?_ | refine TryS.g ?_ | refine TryS.next rfl ?_ | refine TryS.other ?_ | refine TryG.g ?_ | refine TryG.next rfl ?_ | refine Sp.g (sa) ?_ | refine Sp.g (s1) ?_ | refine Sp.g (s2) ?_ | refine Sp.call (s4) (.cons (.refl _) (.cons chz_arg .nil)) rfl (AvLe.refl _) ?_)
      refine ⟨⟨_, _, rfl, rfl, ?_⟩⟩
      exact AvLe.refl _
set_option maxHeartbeats 8000000 in
theorem law_prod (N : Int) (X : Nat → Int) (l : Nat) (M : Int) (Y : Nat → Int) (m : Nat) : Sp CX 11 [chA N X l, chA M Y m] (bool true) := by
  have sa := awake28_sp
  by_cases hl : 100 < l
  · refine fn_sp (C := CX) [] [] tysX_ok mixed Tryd.func11 rfl (by kernel_rfl) Tryd.ntmps11 rfl rfl ?_
    repeat' ((conv => whnf); first | refine Ob.g ?_ | refine Cases.y ?_ | refine Cases.n ?_ | refine Idx.g rfl ?_ | refine Idx.z rfl ?_ | refine DrawOb.start ?_ | refine TryF.f ?_ | refine TryF.next rfl ?_ | refine TryF.other ?_ | refine TryA.g ?_ | refine TryA.next rfl ?_ | refine TryA.other ?_ | refine TryS.g ?_ | refine TryS.next rfl ?_ | refine TryS.other ?_ | refine TryG.g ?_ | refine TryG.next rfl ?_ | refine Sp.g (sa) ?_)
    refine ⟨⟨_, _, rfl, rfl, ?_⟩⟩
    exact AvLe.refl _
  by_cases hm : 100 < m
  · refine fn_sp (C := CX) [] [] tysX_ok mixed Tryd.func11 rfl (by kernel_rfl) Tryd.ntmps11 rfl rfl ?_
    repeat' ((conv => whnf); first | refine Ob.g ?_ | refine Cases.y ?_ | refine Cases.n ?_ | refine Idx.g rfl ?_ | refine Idx.z rfl ?_ | refine DrawOb.start ?_ | refine TryF.f ?_ | refine TryF.next rfl ?_ | refine TryF.other ?_ | refine TryA.g ?_ | refine TryA.next rfl ?_ | refine TryA.other ?_ | refine TryS.g ?_ | refine TryS.next rfl ?_ | refine TryS.other ?_ | refine TryG.g ?_ | refine TryG.next rfl ?_ | refine Sp.g (sa) ?_)
    refine ⟨⟨_, _, rfl, rfl, ?_⟩⟩
    exact AvLe.refl _
  have s1 := Mul_sp N X l M Y m
  have s2 := Conj_sp N X l
  have s3 := rchk_sp N X l
  have s4 := rchk_sp M Y m
  have s5 := same_sp 0 0 X (fun _ => 0) 0 0 (by omega)
  rw [decide_eq_true rfl, Bool.true_and, show eqI _ _ _ _ = true from eqI_iff.2 ⟨rfl, fun _ h => absurd h (Nat.not_lt_zero _)⟩] at s5
  by_cases hc : chkE N X l = 0
  · obtain ⟨n, rfl, ok⟩ := chk_out hc
    rw [hc, if_pos rfl] at s2
    have t1 := rconj_sp ok
    have t2 := same_sp n n (cjZ n X) (cjZ n X) l l (by omega)
    rw [decide_eq_true rfl, Bool.true_and, show eqI _ _ _ _ = true from eqI_iff.2 ⟨rfl, fun _ _ => rfl⟩] at t2
    by_cases hc2 : chkE M Y m = 0
    · rw [hc] at s3
      rw [hc2] at s4
      by_cases hNM : (n : Int) = M
      · have e : mlE n X l M Y m = 0 := by unfold mlE; rw [if_neg (fun h => h hc), if_neg (fun h => h hc2), if_neg (fun h => h hNM)]
        rw [e, if_pos rfl] at s1
        obtain ⟨n', hn', ok2⟩ := chk_out hc2
        obtain rfl : n = n' := by omega
        subst hNM
        have t3 := rmul_sp ok ok2
        have t4 := same_sp n n (mlZ n X Y) (mlZ n X Y) l l (by omega)
        rw [decide_eq_true rfl, Bool.true_and, show eqI _ _ _ _ = true from eqI_iff.2 ⟨rfl, fun _ _ => rfl⟩] at t4
        generalize mlZ n X Y = Z1 at *
        generalize cjZ n X = Z2 at *
        clear e hc hc2 ok ok2 hn'
        refine fn_sp (C := CX) [] [] tysX_ok mixed Tryd.func11 rfl (by kernel_rfl) Tryd.ntmps11 rfl rfl ?_
        repeat' ((conv => whnf); first | refine Ob.g ?_ | refine Cases.y ?_ | refine Cases.n ?_ | refine Idx.g rfl ?_ | refine Idx.z rfl ?_ | refine DrawOb.start ?_ | refine TryF.f ?_ | refine TryF.next rfl ?_ | refine TryF.other ?_ | refine TryA.g ?_ | refine TryA.next rfl ?_ | refine TryA.other ?_ | refine TryS.g ?_ | refine TryS.next rfl ?_ | refine TryS.other ?_ | refine TryG.g ?_ | refine TryG.next rfl ?_ | refine Sp.g (sa) ?_ | refine Sp.g (s1) ?_ | refine Sp.g (s2) ?_ | refine Sp.g (s3) ?_ | refine Sp.g (s4) ?_ | refine Sp.g (t1) ?_ | refine Sp.g (t2) ?_ | refine Sp.g (t3) ?_ | refine Sp.g (t4) ?_)
        refine ⟨⟨_, _, rfl, rfl, ?_⟩⟩
        exact AvLe.refl _
      · have e : mlE n X l M Y m = 24 := by unfold mlE; rw [if_neg (fun h => h hc), if_neg (fun h => h hc2), if_pos hNM]
        rw [e, if_neg (by omega)] at s1
        generalize cjZ n X = Z2 at *
        clear e hc hc2 ok
        refine fn_sp (C := CX) [] [] tysX_ok mixed Tryd.func11 rfl (by kernel_rfl) Tryd.ntmps11 rfl rfl ?_
        repeat' ((conv => whnf); first | refine Ob.g ?_ | refine Cases.y ?_ | refine Cases.n ?_ | refine Idx.g rfl ?_ | refine Idx.z rfl ?_ | refine DrawOb.start ?_ | refine TryF.f ?_ | refine TryF.next rfl ?_ | refine TryF.other ?_ | refine TryA.g ?_ | refine TryA.next rfl ?_ | refine TryA.other ?_ | refine TryS.g ?_ | refine TryS.next rfl ?_ | refine TryS.other ?_ | refine TryG.g ?_ | refine TryG.next rfl ?_ | refine Sp.g (sa) ?_ | refine Sp.g (s1) ?_ | refine Sp.g (s2) ?_ | refine Sp.g (s3) ?_ | refine Sp.g (s4) ?_ | refine Sp.g (t1) ?_ | refine Sp.g (t2) ?_ | refine Sp.call (s5) (.cons (.refl _) (.cons chz_arg .nil)) rfl (AvLe.refl _) ?_)
        refine ⟨⟨_, _, rfl, rfl, ?_⟩⟩
        exact AvLe.refl _
    · have e : mlE n X l M Y m = chkE M Y m := by unfold mlE; rw [if_neg (fun h => h hc), if_pos hc2]
      rw [e, if_neg hc2] at s1
      rw [hc] at s3
      generalize cjZ n X = Z2 at *
      clear e hc ok
      generalize chkE M Y m = e at *
      refine fn_sp (C := CX) [] [] tysX_ok mixed Tryd.func11 rfl (by kernel_rfl) Tryd.ntmps11 rfl rfl ?_
      repeat' ((conv => whnf); first | refine Ob.g ?_ | refine Cases.y ?_ | refine Cases.n ?_ | refine Idx.g rfl ?_ | refine Idx.z rfl ?_ | refine DrawOb.start ?_ | refine TryF.f ?_ | refine TryF.next rfl ?_ | refine TryF.other ?_ | refine TryA.g ?_ | refine TryA.next rfl ?_ | refine TryA.other ?_ | refine TryS.g ?_ | refine TryS.next rfl ?_ | refine TryS.other ?_ | refine TryG.g ?_ | refine TryG.next rfl ?_ | refine Sp.g (sa) ?_ | refine Sp.g (s1) ?_ | refine Sp.g (s2) ?_ | refine Sp.g (s3) ?_ | refine Sp.g (s4) ?_ | refine Sp.g (t1) ?_ | refine Sp.g (t2) ?_ | refine Sp.call (s5) (.cons (.refl _) (.cons chz_arg .nil)) rfl (AvLe.refl _) ?_)
      refine ⟨⟨_, _, rfl, rfl, ?_⟩⟩
      exact AvLe.refl _
  · have e : mlE N X l M Y m = chkE N X l := by unfold mlE; rw [if_pos hc]
    rw [e, if_neg hc] at s1
    rw [if_neg hc] at s2
    clear e
    generalize chkE N X l = e at *
    refine fn_sp (C := CX) [] [] tysX_ok mixed Tryd.func11 rfl (by kernel_rfl) Tryd.ntmps11 rfl rfl ?_
    repeat' ((conv => whnf); first | refine Ob.g ?_ | refine Cases.y ?_ | refine Cases.n ?_ | refine Idx.g rfl ?_ | refine Idx.z rfl ?_ | refine DrawOb.start ?_ | refine TryF.f ?_ | refine TryF.next rfl ?_ | refine TryF.other ?_ | refine TryA.g ?_ | refine TryA.next rfl ?_ | refine TryA.other ?_ | refine TryS.g ?_ | refine TryS.next rfl ?_ | refine TryS.other ?_ | refine TryG.g ?_ | refine TryG.next rfl ?_ | refine Sp.g (sa) ?_ | refine Sp.g (s1) ?_ | refine Sp.g (s2) ?_ | refine Sp.g (s3) ?_ | refine Sp.call (s5) (.cons (.refl _) (.cons chz_arg .nil)) rfl (AvLe.refl _) ?_)
    refine ⟨⟨_, _, rfl, rfl, ?_⟩⟩
    exact AvLe.refl _
end Go.Proofs.YtagigjppbabpkaaDoor
