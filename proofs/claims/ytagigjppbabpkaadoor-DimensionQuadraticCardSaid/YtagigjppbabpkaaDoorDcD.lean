/- The dimensions for a character; the law of quadratic characters. -/
import Derived.Test.YtagigjppbabpkaaDoorDcB
import Derived.Test.YtagigjppbabpkaaDoorDcC
import Derived.Test.YtagigjppbabpkaaDoorPkDmK
namespace Go.Proofs.YtagigjppbabpkaaDoor
open Go Go.RowKit Go.VG HP
theorem vR_ok {n : Nat} {X : Nat → Int} {l : Nat} (hc : chkE n X l = 0) {a : Nat} (ha : a ≤ 1000) : vR n X l a = (valR n (fun i => (X i).toNat) a, 0) := by
  unfold vR
  rw [if_neg (fun h => h hc), if_neg (by omega), Int.toNat_natCast]
theorem rootS_four {n : Nat} {X : Nat → Int} {l : Nat} (hc : chkE n X l = 0) (hn : n ≤ 60) : rootS n 0 (cF n X l) n = rootS n 0 (fourX n fun i => (X i).toNat) n :=
  rootS_congr n fun a ha _ => by
    unfold cF fourX
    rw [vR_ok hc (by omega)]
theorem rootS_third {n : Nat} {X : Nat → Int} {l : Nat} (hc : chkE n X l = 0) (hn : n ≤ 60) : rootS n 1 (cT n X l) n = rootS n 1 (thirdX n fun i => (X i).toNat) n :=
  rootS_congr n fun a ha _ => by
    unfold cT thirdX
    rw [vR_ok hc (by omega)]
theorem fourX_bd {n : Nat} {E : Nat → Nat} (m : Nat) : -(2 * m : Int) ≤ rootS n 0 (fourX n E) m ∧ rootS n 0 (fourX n E) m ≤ 2 * m := rootS_bd (B := 2) (by omega) (fun a => by unfold fourX; split <;> omega) m
theorem thirdX_bd {n : Nat} {E : Nat → Nat} (m : Nat) : -(2 * m : Int) ≤ rootS n 1 (thirdX n E) m ∧ rootS n 1 (thirdX n E) m ≤ 2 * m := rootS_bd (B := 2) (by omega) (fun a => by unfold thirdX; split <;> omega) m
theorem character_sp (n k f : Nat) (X : Nat → Int) (l : Nat) (hc : chkE n X l = 0) (hn0 : 1 ≤ n) (hn : n ≤ 60) (hk : 2 ≤ k) (hk2 : k ≤ 24) (hf : cnd n (fun i => (X i).toNat) = f) (hp : (valR n (fun i => (X i).toNat) (-1)).2.1 = 0 ↔ k % 2 = 0) :
    Sp CX 79 [int .i64 k, chA n X l] (.tup [.agg [ix n, ix f, ix k, ix (rootS n 0 (fourX n fun i => (X i).toNat) n), ix (rootS n 1 (thirdX n fun i => (X i).toNat) n)], .c (ix 0)]) := by
  refine ⟨callOk Tryd.func79 (by kernel_rfl) (by kernel_rfl), rfl, fun O w vs h1 h2 h3 => ?_⟩
  have hT : TabW w := h2 w (Ext.refl _ _)
  have h0 := h3 (fun _ => undef) w (Ext.refl _ _)
  match vs, h0 with
  | [_, _], ⟨⟨_, rfl⟩, ⟨cs, rfl, hcs⟩, _⟩ =>
    match cs, hcs with
    | [_, _], ⟨⟨_, rfl⟩, ⟨_, ⟨sp, cap, rfl, _⟩⟩, _⟩ =>
      have hv : ∀ ρ w', Ext (fun _ => False) w w' → (chA n X l).at ρ w' (.agg #[.int .i64 n, .slice sp l cap]) := fun ρ w' hx => (h3 ρ w' (hx.mono fun _ _ h => h.elim)).2.1
      have s1 := Conductor_sp n X l
      have s2 := Even_sp n X l
      rw [hc, if_pos rfl, Int.toNat_natCast, hf] at s1
      rw [hc, decide_eq_true rfl, Bool.true_and, Int.toNat_natCast] at s2
      have d1 := below_calls (v := .tuple #[.int .i64 f, .int .i64 0]) s1 (fun w' v' h => by
        obtain ⟨vs, rfl, ht⟩ := h
        match vs, ht with
        | [_, _], ⟨⟨_, rfl⟩, ⟨_, rfl⟩, _⟩ => rfl) hT hv
      have d2 := below_calls (v := .tuple #[.bool (decide ((valR n (fun i => (X i).toNat) (-1)).2.1 = 0)), .int .i64 0]) s2 (fun w' v' h => by
        obtain ⟨vs, rfl, ht⟩ := h
        match vs, ht with
        | [_, _], ⟨⟨_, rfl⟩, ⟨_, rfl⟩, _⟩ => rfl) hT hv
      have ht : (((k : Nat) : Int) % 2 == 0) = decide ((valR n (fun i => (X i).toNat) (-1)).2.1 = 0) := by
        by_cases h : k % 2 = 0
        · rw [decide_eq_true (hp.2 h), beq_iff_eq]; omega
        · rw [decide_eq_false (fun x => h (hp.1 x)), beq_eq_false_iff_ne]; omega
      have hw := character_any n f k X l sp l cap _ w hT hn0 hn hv (by omega) (by omega) ht d1 d2
      rw [rootS_four hc hn, rootS_third hc hn] at hw
      refine hw.mono fun e w' ⟨he, hb⟩ => ⟨_, he, hb, fun ρ' w'' _ => ⟨_, rfl, ⟨_, rfl, ⟨rfl, rfl⟩, ⟨rfl, rfl⟩, ⟨rfl, rfl⟩, ⟨rfl, rfl⟩, ⟨rfl, rfl⟩, trivial⟩, ⟨rfl, rfl⟩, trivial⟩⟩
/-- what a character must be for its dimensions to be known -/
structure CrOk (n k f : Nat) (X : Nat → Int) (l : Nat) : Prop where
  chk : chkE n X l = 0
  n0 : 1 ≤ n
  n1 : n ≤ 60
  k0 : 2 ≤ k
  k1 : k ≤ 24
  cnd : cnd n (fun i => (X i).toNat) = f
  par : (valR n (fun i => (X i).toNat) (-1)).2.1 = 0 ↔ k % 2 = 0
set_option maxHeartbeats 4000000 in
theorem cuspC_sp {n k f : Nat} {X : Nat → Int} {l : Nat} (h : CrOk n k f X l) : Sp CX 50 [int .i64 k, chA n X l]
    (.tup [.c (ix ((dim12 n k f (rootS n 0 (fourX n fun i => (X i).toNat) n) (rootS n 1 (thirdX n fun i => (X i).toNat) n)).tdiv 12)), .c (ix 0)]) := by
  obtain ⟨hc, n0, n1, k0, k1, hf, hp⟩ := h
  have s := character_sp n k f X l hc n0 n1 k0 k1 hf hp
  obtain ⟨f1, f2, f3⟩ := cnd_dvd n0 n1 (fun i => (X i).toNat)
  rw [hf] at f1 f2 f3
  have b1 := fourX_bd (n := n) (E := fun i => (X i).toNat) n
  have b2 := thirdX_bd (n := n) (E := fun i => (X i).toNat) n
  clear hc hf hp
  generalize rootS n 0 (fourX n fun i => (X i).toNat) n = x at *
  generalize rootS n 1 (thirdX n fun i => (X i).toNat) n = y at *
  have s2 := cuspm_sp n f k x y n0 (by omega) f2 (by omega) f1 k0 k1 (by omega) (by omega) (by omega) (by omega)
  refine fn_sp (C := CX) [] [] tysX_ok mixed Tryd.func50 rfl (by kernel_rfl) Tryd.ntmps50 rfl rfl ?_
  repeat' ((conv => whnf); first | refine Ob.g ?_ | refine Cases.y ?_ | refine Cases.n ?_ | refine Idx.g rfl ?_ | refine Idx.z rfl ?_ | refine DrawOb.start ?_ | refine TryF.f ?_ | refine TryF.next rfl ?_ | refine TryF.other ?_ | refine TryA.g ?_ | refine TryA.next rfl ?_ | refine TryA.other ?_ | refine TryS.g ?_ | refine TryS.next rfl ?_ | refine TryS.other ?_ | refine TryG.g ?_ | refine TryG.next rfl ?_ | refine Sp.g (s) ?_ | refine Sp.g (s2) ?_)
  refine ⟨⟨_, _, rfl, rfl, ?_⟩⟩
  exact AvLe.refl _
set_option maxHeartbeats 4000000 in
theorem modC_sp {n k f : Nat} {X : Nat → Int} {l : Nat} (h : CrOk n k f X l) (hb : -100000 ≤ (dim12 n k f (rootS n 0 (fourX n fun i => (X i).toNat) n) (rootS n 1 (thirdX n fun i => (X i).toNat) n)).tdiv 12 ∧ (dim12 n k f (rootS n 0 (fourX n fun i => (X i).toNat) n) (rootS n 1 (thirdX n fun i => (X i).toNat) n)).tdiv 12 ≤ 100000) :
    Sp CX 51 [int .i64 k, chA n X l]
    (.tup [.c (ix ((dim12 n k f (rootS n 0 (fourX n fun i => (X i).toNat) n) (rootS n 1 (thirdX n fun i => (X i).toNat) n)).tdiv 12 + (lam f n - if k = 2 ∧ f = 1 then 1 else 0))), .c (ix 0)]) := by
  obtain ⟨hc, n0, n1, k0, k1, hf, hp⟩ := h
  have s := character_sp n k f X l hc n0 n1 k0 k1 hf hp
  obtain ⟨f1, f2, f3⟩ := cnd_dvd n0 n1 (fun i => (X i).toNat)
  rw [hf] at f1 f2 f3
  have b1 := fourX_bd (n := n) (E := fun i => (X i).toNat) n
  have b2 := thirdX_bd (n := n) (E := fun i => (X i).toNat) n
  clear hc hf hp
  generalize rootS n 0 (fourX n fun i => (X i).toNat) n = x at *
  generalize rootS n 1 (thirdX n fun i => (X i).toNat) n = y at *
  have b4 := lam_small (f := f) n0 (show n ≤ 120 by omega)
  obtain ⟨ex, hex⟩ : ∃ ex : Int, ex = if k = 2 ∧ f = 1 then 1 else 0 := ⟨_, rfl⟩
  have hex2 : 0 ≤ ex ∧ ex ≤ 1 := by rw [hex]; split <;> omega
  have s2 := cuspm_sp n f k x y n0 (by omega) f2 (by omega) f1 k0 k1 (by omega) (by omega) (by omega) (by omega)
  have s3 := eis_sp n f k x y n0 (by omega) f2 (by omega) f1
  rw [← hex] at s3 ⊢
  clear hex
  generalize (dim12 n k f x y).tdiv 12 = z at *
  refine fn_sp (C := CX) [] [] tysX_ok mixed Tryd.func51 rfl (by kernel_rfl) Tryd.ntmps51 rfl rfl ?_
  repeat' ((conv => whnf); first | refine Ob.g ?_ | refine Cases.y ?_ | refine Cases.n ?_ | refine Idx.g rfl ?_ | refine Idx.z rfl ?_ | refine DrawOb.start ?_ | refine TryF.f ?_ | refine TryF.next rfl ?_ | refine TryF.other ?_ | refine TryA.g ?_ | refine TryA.next rfl ?_ | refine TryA.other ?_ | refine TryS.g ?_ | refine TryS.next rfl ?_ | refine TryS.other ?_ | refine TryG.g ?_ | refine TryG.next rfl ?_ | refine Sp.g (s) ?_ | refine Sp.g (s2) ?_ | refine Sp.g (s3) ?_)
  refine ⟨⟨_, _, rfl, rfl, ?_⟩⟩
  exact AvLe.refl _
set_option maxHeartbeats 8000000 in
theorem law_q31 (L K D : Int) : Sp CX 13 [specA L K D] (bool true) := by
  have s0 := awake_sp
  by_cases h : dchk L K D = 0
  · obtain ⟨n, k, rfl, rfl, ok⟩ := dchk_out h
    have s1 := cusp_ok n k D ok
    have s2 := modular_ok n k D ok
    have bb := cuspV_bd D ok.n0 ok.n1 (show 1 ≤ k by have := ok.k0; omega) ok.k1
    by_cases hn : n ≤ 60
    · have o := x_ok ok hn
      have s3 := Quadratic_sp D (fun _ => 0)
      rw [o.qu, if_pos rfl] at s3
      have s4 := Extend_sp (D.natAbs : Nat) (quW D) (np D.natAbs) n (by omega) (by omega)
      rw [o.ex, if_pos rfl, Int.toNat_natCast] at s4
      have par := ok.par
      have dz := ok.dz
      have co : CrOk n k D.natAbs (extW (D.natAbs : Nat) (quW D) n) (np n) := ⟨o.chk, ok.n0, hn, ok.k0, ok.k1, o.cnd, o.even.trans (by omega)⟩
      have ec : (dim12 n k D.natAbs (rootS n 0 (fourX n fun i => (extW (D.natAbs : Nat) (quW D) n i).toNat) n) (rootS n 1 (thirdX n fun i => (extW (D.natAbs : Nat) (quW D) n i).toNat) n)).tdiv 12 = cuspV n k D := by
        rw [o.four, o.third]; rfl
      have s5 := cuspC_sp co
      have s6 := modC_sp co (by rw [ec]; omega)
      rw [ec] at s5 s6
      clear o co ec ok par
      generalize cuspV n k D = x at *
      generalize (lam D.natAbs n - if k = 2 ∧ D.natAbs = 1 then 1 else 0) = y at *
      generalize extW (D.natAbs : Nat) (quW D) n = Y at *
      generalize quW D = Z at *
      generalize np D.natAbs = lz at *
      generalize D.natAbs = f at *
      generalize np n = ly at *
      refine fn_sp (C := CX) [] [] tysX_ok mixed Tryd.func13 rfl (by kernel_rfl) Tryd.ntmps13 rfl rfl ?_
      repeat' ((conv => whnf); first | refine Ob.g ?_ | refine Cases.y ?_ | refine Cases.n ?_ | refine Idx.g rfl ?_ | refine Idx.z rfl ?_ | refine DrawOb.start ?_ | refine TryF.f ?_ | refine TryF.next rfl ?_ | refine TryF.other ?_ | refine TryA.g ?_ | refine TryA.next rfl ?_ | refine TryA.other ?_ | refine TryS.g ?_ | refine TryS.next rfl ?_ | refine TryS.other ?_ | refine TryG.g ?_ | refine TryG.next rfl ?_ | refine Sp.g (s0) ?_ | refine Sp.g (s1) ?_ | refine Sp.g (s2) ?_ | refine Sp.g (s3) ?_ | refine Sp.g (s4) ?_ | refine Sp.g (s5) ?_ | refine Sp.g (s6) ?_)
      refine ⟨⟨_, _, rfl, rfl, ?_⟩⟩
      exact AvLe.bool (decide_eq_true rfl)
    · clear ok
      refine fn_sp (C := CX) [] [] tysX_ok mixed Tryd.func13 rfl (by kernel_rfl) Tryd.ntmps13 rfl rfl ?_
      repeat' ((conv => whnf); first | refine Ob.g ?_ | refine Cases.y ?_ | refine Cases.n ?_ | refine Idx.g rfl ?_ | refine Idx.z rfl ?_ | refine DrawOb.start ?_ | refine TryF.f ?_ | refine TryF.next rfl ?_ | refine TryF.other ?_ | refine TryA.g ?_ | refine TryA.next rfl ?_ | refine TryA.other ?_ | refine TryS.g ?_ | refine TryS.next rfl ?_ | refine TryS.other ?_ | refine TryG.g ?_ | refine TryG.next rfl ?_ | refine Sp.g (s0) ?_ | refine Sp.g (s1) ?_ | refine Sp.g (s2) ?_)
      refine ⟨⟨_, _, rfl, rfl, ?_⟩⟩
      exact AvLe.bool (decide_eq_true rfl)
  · have s1 := cusp_bad L K D h
    have s2 := modular_bad L K D h
    obtain ⟨e, he⟩ : ∃ e, e = dchk L K D := ⟨_, rfl⟩
    rw [← he] at s1 s2 h
    clear he
    refine fn_sp (C := CX) [] [] tysX_ok mixed Tryd.func13 rfl (by kernel_rfl) Tryd.ntmps13 rfl rfl ?_
    repeat' ((conv => whnf); first | refine Ob.g ?_ | refine Cases.y ?_ | refine Cases.n ?_ | refine Idx.g rfl ?_ | refine Idx.z rfl ?_ | refine DrawOb.start ?_ | refine TryF.f ?_ | refine TryF.next rfl ?_ | refine TryF.other ?_ | refine TryA.g ?_ | refine TryA.next rfl ?_ | refine TryA.other ?_ | refine TryS.g ?_ | refine TryS.next rfl ?_ | refine TryS.other ?_ | refine TryG.g ?_ | refine TryG.next rfl ?_ | refine Sp.g (s0) ?_ | refine Sp.g (s1) ?_ | refine Sp.g (s2) ?_)
    refine ⟨⟨_, _, rfl, rfl, ?_⟩⟩
    exact AvLe.bool (decide_eq_true rfl)
end Go.Proofs.YtagigjppbabpkaaDoor
