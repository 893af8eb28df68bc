/- Own texts joined: DcB, DcD, DcE, DcF, DcG, DcH. -/
import Derived.Test.YtedfcemebdlgfaaGreatDoorPkDiLa
import Derived.Test.YtedfcemebdlgfaaGreatDoorPkDmH
import Derived.Test.YtedfcemebdlgfaaGreatDoorDcC
import Derived.Test.YtedfcemebdlgfaaGreatDoorPkDmK
import Derived.Test.YtedfcemebdlgfaaGreatDoorPkDiV
/- The quadratic character at any level: what the kernel reckons. -/
namespace Go.Proofs.YtedfcemebdlgfaaGreatDoor
open Go Go.RowKit Go.VG HP
def xWC (d : Int) (n i : Nat) : Nat := bif decide (jacC2 d (genT n (prtAt n i)) < 0) then (prtAt n i).o / 2 else 0
def fourX (n : Nat) (E : Nat → Nat) (a : Nat) : Int := if (valR n E (a : Int)).2.1 = 0 then 1 else -1
def thirdX (n : Nat) (E : Nat → Nat) (a : Nat) : Int := if (valR n E (a : Int)).2.1 = 0 then 2 else -1
def xChk (d : Int) (n : Nat) : Bool :=
  (List.range (np n)).all (fun i => Nat.blt (xWC d n i) (prtAt n i).o && Nat.beq (exW d.natAbs (qWC d) n (fun i => genT n (prtAt n i)) i) (xWC d n i)) &&
  Nat.beq (cnd n (xWC d n)) d.natAbs && (Nat.beq (valR n (xWC d n) (-1)).2.1 0 == decide (0 < d)) &&
  allB n (fun a => !Nat.beq ((a * a + 0 * a + 1) % n) 0 || decide (fourX n (xWC d n) a = jacC2 d (a + n))) &&
  allB n (fun a => !Nat.beq ((a * a + 1 * a + 1) % n) 0 || decide (thirdX n (xWC d n) a = 2 * jacC2 d (a + n)))
theorem x_chk : allB 121 (fun k => let d : Int := (k : Int) - 60
    decide (d = 0) || !(decide (d = 1) || fundB d) || (decide ((HP.fundC d).2.2 = 0 ∧ (HP.fundC d).2.1 = 1) && allB 61 (fun n => Nat.beq n 0 || !Nat.beq (n % d.natAbs) 0 || xChk d n))) = true := by decide +kernel
theorem rootS_congr {n c : Nat} {g h : Nat → Int} : ∀ m : Nat, (∀ a, a < m → (a * a + c * a + 1) % n = 0 → g a = h a) → rootS n c g m = rootS n c h m
  | 0, _ => rfl
  | m + 1, H => by
    rw [rootS, rootS, rootS_congr m fun a ha => H a (by omega)]
    by_cases hz : (m * m + c * m + 1) % n = 0
    · rw [if_pos hz, if_pos hz, H m (by omega) hz]
    · rw [if_neg hz, if_neg hz]
structure XOk (d : Int) (n : Nat) (E : Nat → Nat) : Prop where
  qu : quE d = 0
  ex : exE (d.natAbs : Nat) (quW d) (np d.natAbs) n = 0
  chk : chkE n (extW (d.natAbs : Nat) (quW d) n) (np n) = 0
  cnd : cnd n E = d.natAbs
  even : ((valR n E (-1)).2.1 = 0) ↔ 0 < d
  four : rootS n 0 (fourX n E) n = rootR n 0 (fun a => jac d a) n
  third : rootS n 1 (thirdX n E) n = rootR n 1 (fun a => 2 * jac d a) n
theorem x_ok {n k : Nat} {d : Int} (h : DOk n k d) (hn : n ≤ 60) : XOk d n (fun i => (extW (d.natAbs : Nat) (quW d) n i).toNat) := by
  obtain ⟨n0, n1, k0, k1, d0, d1, dz, d4, f, dv, par, bg⟩ := h
  have hle : d.natAbs ≤ n := Nat.le_of_dvd (by omega) dv
  have hc := allB_at x_chk (show (d + 60).toNat < 121 by omega)
  have e : (((d + 60).toNat : Nat) : Int) - 60 = d := by omega
  have f' : (decide (d = 1) || fundB d) = true := by
    rcases f with h | h
    · rw [decide_eq_true h]; rfl
    · rw [h, Bool.or_true]
  simp only [e, f', decide_eq_false dz, Bool.not_true, Bool.false_or, Bool.and_eq_true, decide_eq_true_eq] at hc
  obtain ⟨⟨c1, c2⟩, c3⟩ := hc
  have hx := allB_at c3 (show n < 61 by omega)
  have z : Nat.beq (n % d.natAbs) 0 = true := by rw [Nat.mod_eq_zero_of_dvd dv]; rfl
  have z0 : Nat.beq n 0 = false := nbeq_ff (by omega)
  rw [z, z0] at hx
  change xChk d n = true at hx
  unfold xChk at hx
  simp only [Bool.and_eq_true, beq_iff_eq] at hx
  obtain ⟨⟨⟨⟨a1, a2⟩, a3⟩, a4⟩, a5⟩ := hx
  have hq : quE d = 0 := by
    unfold quE
    rw [if_neg (by omega), fundC_eq (by omega) (by omega), if_neg (fun h => h.elim (fun x => x c1) fun x => x c2)]
  have hQ : ∀ i, i < np d.natAbs → (quW d i).toNat = qWC d i := fun i hi => by rw [quW_C dz (by omega) (by omega) hi, Int.toNat_natCast]
  have hW : ∀ i, i < np n → extW (d.natAbs : Nat) (quW d) n i = (xWC d n i : Int) ∧ xWC d n i < (prtAt n i).o := fun i hi => by
    have hb := List.all_eq_true.1 a1 i (List.mem_range.2 hi)
    rw [Bool.and_eq_true, Nat.blt_eq] at hb
    refine ⟨?_, hb.1⟩
    rw [← Nat.eq_of_beq_eq_true hb.2]
    unfold extW exW
    rw [Int.toNat_natCast, valR_congr hQ]
  have hE : ∀ i, i < np n → (extW (d.natAbs : Nat) (quW d) n i).toNat = xWC d n i := fun i hi => by rw [(hW i hi).1, Int.toNat_natCast]
  have hv := fun a => valR_congr hE a
  refine ⟨hq, ?_, chk_mk n0 hn hW, ?_, ?_, ?_, ?_⟩
  · have hz : ((n : Nat) : Int).tmod (d.natAbs : Nat) = 0 := by rw [← Int.ofNat_tmod, Nat.mod_eq_zero_of_dvd dv]; rfl
    unfold exE
    rw [if_neg (fun h => h (qu_ok hq).chk), if_neg (by omega), if_neg (fun h => h hz)]
  · rw [cnd_congr hE]; exact Nat.eq_of_beq_eq_true a2
  · rw [hv]
    constructor
    · intro hz
      rw [hz] at a3
      exact of_decide_eq_true a3.symm
    · intro hp
      rw [decide_eq_true hp] at a3
      exact Nat.eq_of_beq_eq_true a3
  · rw [← four_eq dz d4 dv n0]
    refine rootS_congr n fun a ha hz => ?_
    have hb := allB_at a4 ha
    rw [hz] at hb
    have hb2 : fourX n (xWC d n) a = jacC2 d (a + n) := of_decide_eq_true hb
    unfold fourX at hb2 ⊢
    rw [hv, hb2, ← jac_C2 (by omega) (by omega), ← Int.natCast_add, kro_pos (by omega), Int.toNat_natCast]
  · rw [← three_eq dz d4 dv n0]
    refine rootS_congr n fun a ha hz => ?_
    have hb := allB_at a5 ha
    rw [hz] at hb
    have hb2 : thirdX n (xWC d n) a = 2 * jacC2 d (a + n) := of_decide_eq_true hb
    unfold thirdX at hb2 ⊢
    rw [hv, hb2, ← jac_C2 (by omega) (by omega), ← Int.natCast_add, kro_pos (by omega), Int.toNat_natCast]
end Go.Proofs.YtedfcemebdlgfaaGreatDoor

/- The dimensions for a character; the law of quadratic characters. -/
namespace Go.Proofs.YtedfcemebdlgfaaGreatDoor
open Go Go.RowKit Go.VG HP
theorem vR_ok {n : Nat} {X : Nat → Int} {l : Nat} (hc : chkE n X l = 0) {a : Nat} (ha : a ≤ 1000) : vR n X l a = (valR n (fun i => (X i).toNat) a, 0) := by
  unfold vR
  rw [if_neg (fun h => h hc), if_neg (by omega), Int.toNat_natCast]
theorem rootS_four {n : Nat} {X : Nat → Int} {l : Nat} (hc : chkE n X l = 0) (hn : n ≤ 60) : rootS n 0 (cF n X l) n = rootS n 0 (fourX n fun i => (X i).toNat) n :=
  rootS_congr n fun a ha _ => by
    unfold cF fourX
    rw [vR_ok hc (by omega)]
theorem rootS_third {n : Nat} {X : Nat → Int} {l : Nat} (hc : chkE n X l = 0) (hn : n ≤ 60) : rootS n 1 (cT n X l) n = rootS n 1 (thirdX n fun i => (X i).toNat) n :=
  rootS_congr n fun a ha _ => by
    unfold cT thirdX
    rw [vR_ok hc (by omega)]
theorem fourX_bd {n : Nat} {E : Nat → Nat} (m : Nat) : -(2 * m : Int) ≤ rootS n 0 (fourX n E) m ∧ rootS n 0 (fourX n E) m ≤ 2 * m := rootS_bd (B := 2) (by omega) (fun a => by unfold fourX; split <;> omega) m
theorem thirdX_bd {n : Nat} {E : Nat → Nat} (m : Nat) : -(2 * m : Int) ≤ rootS n 1 (thirdX n E) m ∧ rootS n 1 (thirdX n E) m ≤ 2 * m := rootS_bd (B := 2) (by omega) (fun a => by unfold thirdX; split <;> omega) m
theorem character_sp (n k f : Nat) (X : Nat → Int) (l : Nat) (hc : chkE n X l = 0) (hn0 : 1 ≤ n) (hn : n ≤ 60) (hk : 2 ≤ k) (hk2 : k ≤ 24) (hf : cnd n (fun i => (X i).toNat) = f) (hp : (valR n (fun i => (X i).toNat) (-1)).2.1 = 0 ↔ k % 2 = 0) :
    Sp CX 14 [int .i64 k, chA n X l] (.tup [.agg [ix n, ix f, ix k, ix (rootS n 0 (fourX n fun i => (X i).toNat) n), ix (rootS n 1 (thirdX n fun i => (X i).toNat) n)], .c (ix 0)]) := by
  refine ⟨callOk Tryz.func14 (by kernel_rfl) (by kernel_rfl), rfl, fun O w vs h1 h2 h3 => ?_⟩
  have hT : TabW w := h2 w (Ext.refl _ _)
  have h0 := h3 (fun _ => undef) w (Ext.refl _ _)
  match vs, h0 with
  | [_, _], ⟨⟨_, rfl⟩, ⟨cs, rfl, hcs⟩, _⟩ =>
    match cs, hcs with
    | [_, _], ⟨⟨_, rfl⟩, ⟨_, ⟨sp, cap, rfl, _⟩⟩, _⟩ =>
      have hv : ∀ ρ w', Ext (fun _ => False) w w' → (chA n X l).at ρ w' (.agg #[.int .i64 n, .slice sp l cap]) := fun ρ w' hx => (h3 ρ w' (hx.mono fun _ _ h => h.elim)).2.1
      have s1 := Conductor_sp n X l
      have s2 := Even_sp n X l
      rw [hc, if_pos rfl, Int.toNat_natCast, hf] at s1
      rw [hc, decide_eq_true rfl, Bool.true_and, Int.toNat_natCast] at s2
      have d1 := below_calls (v := .tuple #[.int .i64 f, .int .i64 0]) s1 (fun w' v' h => by
        obtain ⟨vs, rfl, ht⟩ := h
        match vs, ht with
        | [_, _], ⟨⟨_, rfl⟩, ⟨_, rfl⟩, _⟩ => rfl) hT hv
      have d2 := below_calls (v := .tuple #[.bool (decide ((valR n (fun i => (X i).toNat) (-1)).2.1 = 0)), .int .i64 0]) s2 (fun w' v' h => by
        obtain ⟨vs, rfl, ht⟩ := h
        match vs, ht with
        | [_, _], ⟨⟨_, rfl⟩, ⟨_, rfl⟩, _⟩ => rfl) hT hv
      have ht : (((k : Nat) : Int) % 2 == 0) = decide ((valR n (fun i => (X i).toNat) (-1)).2.1 = 0) := by
        by_cases h : k % 2 = 0
        · rw [decide_eq_true (hp.2 h), beq_iff_eq]; omega
        · rw [decide_eq_false (fun x => h (hp.1 x)), beq_eq_false_iff_ne]; omega
      have hw := character_any n f k X l sp l cap _ w hT hn0 hn hv (by omega) (by omega) ht d1 d2
      rw [rootS_four hc hn, rootS_third hc hn] at hw
      refine hw.mono fun e w' ⟨he, hb⟩ => ⟨_, he, hb, fun ρ' w'' _ => ⟨_, rfl, ⟨_, rfl, ⟨rfl, rfl⟩, ⟨rfl, rfl⟩, ⟨rfl, rfl⟩, ⟨rfl, rfl⟩, ⟨rfl, rfl⟩, trivial⟩, ⟨rfl, rfl⟩, trivial⟩⟩
/-- what a character must be for its dimensions to be known -/
structure CrOk (n k f : Nat) (X : Nat → Int) (l : Nat) : Prop where
  chk : chkE n X l = 0
  n0 : 1 ≤ n
  n1 : n ≤ 60
  k0 : 2 ≤ k
  k1 : k ≤ 24
  cnd : cnd n (fun i => (X i).toNat) = f
  par : (valR n (fun i => (X i).toNat) (-1)).2.1 = 0 ↔ k % 2 = 0
set_option maxHeartbeats 4000000 in
theorem cuspC_sp {n k f : Nat} {X : Nat → Int} {l : Nat} (h : CrOk n k f X l) : Sp CX 5 [int .i64 k, chA n X l]
    (.tup [.c (ix ((dim12 n k f (rootS n 0 (fourX n fun i => (X i).toNat) n) (rootS n 1 (thirdX n fun i => (X i).toNat) n)).tdiv 12)), .c (ix 0)]) := by
  obtain ⟨hc, n0, n1, k0, k1, hf, hp⟩ := h
  have s := character_sp n k f X l hc n0 n1 k0 k1 hf hp
  obtain ⟨f1, f2, f3⟩ := cnd_dvd n0 n1 (fun i => (X i).toNat)
  rw [hf] at f1 f2 f3
  have b1 := fourX_bd (n := n) (E := fun i => (X i).toNat) n
  have b2 := thirdX_bd (n := n) (E := fun i => (X i).toNat) n
  clear hc hf hp
  generalize rootS n 0 (fourX n fun i => (X i).toNat) n = x at *
  generalize rootS n 1 (thirdX n fun i => (X i).toNat) n = y at *
  have s2 := cuspm_sp n f k x y n0 (by omega) f2 (by omega) f1 k0 k1 (by omega) (by omega) (by omega) (by omega)
  refine fn_sp (C := CX) [] [] tysX_ok mixed Tryz.func5 rfl (by kernel_rfl) Tryz.ntmps5 rfl rfl ?_
  repeat' ((conv => whnf); first | refine Ob.g ?_ | refine Cases.y ?_ | refine Cases.n ?_ | refine Idx.g rfl ?_ | refine Idx.z rfl ?_ | refine DrawOb.start ?_ | refine TryF.f ?_ | refine TryF.next rfl ?_ | refine TryF.other ?_ | refine TryA.g ?_ | refine TryA.next rfl ?_ | refine TryA.other ?_ | refine TryS.g ?_ | refine TryS.next rfl ?_ | refine TryS.other ?_ | refine TryG.g ?_ | refine TryG.next rfl ?_ | refine Sp.g (s) ?_ | refine Sp.g (s2) ?_)
  refine ⟨⟨_, _, rfl, rfl, ?_⟩⟩
  exact AvLe.refl _
set_option maxHeartbeats 4000000 in
theorem modC_sp {n k f : Nat} {X : Nat → Int} {l : Nat} (h : CrOk n k f X l) (hb : -100000 ≤ (dim12 n k f (rootS n 0 (fourX n fun i => (X i).toNat) n) (rootS n 1 (thirdX n fun i => (X i).toNat) n)).tdiv 12 ∧ (dim12 n k f (rootS n 0 (fourX n fun i => (X i).toNat) n) (rootS n 1 (thirdX n fun i => (X i).toNat) n)).tdiv 12 ≤ 100000) :
    Sp CX 6 [int .i64 k, chA n X l]
    (.tup [.c (ix ((dim12 n k f (rootS n 0 (fourX n fun i => (X i).toNat) n) (rootS n 1 (thirdX n fun i => (X i).toNat) n)).tdiv 12 + (lam f n - if k = 2 ∧ f = 1 then 1 else 0))), .c (ix 0)]) := by
  obtain ⟨hc, n0, n1, k0, k1, hf, hp⟩ := h
  have s := character_sp n k f X l hc n0 n1 k0 k1 hf hp
  obtain ⟨f1, f2, f3⟩ := cnd_dvd n0 n1 (fun i => (X i).toNat)
  rw [hf] at f1 f2 f3
  have b1 := fourX_bd (n := n) (E := fun i => (X i).toNat) n
  have b2 := thirdX_bd (n := n) (E := fun i => (X i).toNat) n
  clear hc hf hp
  generalize rootS n 0 (fourX n fun i => (X i).toNat) n = x at *
  generalize rootS n 1 (thirdX n fun i => (X i).toNat) n = y at *
  have b4 := lam_small (f := f) n0 (show n ≤ 120 by omega)
  obtain ⟨ex, hex⟩ : ∃ ex : Int, ex = if k = 2 ∧ f = 1 then 1 else 0 := ⟨_, rfl⟩
  have hex2 : 0 ≤ ex ∧ ex ≤ 1 := by rw [hex]; split <;> omega
  have s2 := cuspm_sp n f k x y n0 (by omega) f2 (by omega) f1 k0 k1 (by omega) (by omega) (by omega) (by omega)
  have s3 := eis_sp n f k x y n0 (by omega) f2 (by omega) f1
  rw [← hex] at s3 ⊢
  clear hex
  generalize (dim12 n k f x y).tdiv 12 = z at *
  refine fn_sp (C := CX) [] [] tysX_ok mixed Tryz.func6 rfl (by kernel_rfl) Tryz.ntmps6 rfl rfl ?_
  repeat' ((conv => whnf); first | refine Ob.g ?_ | refine Cases.y ?_ | refine Cases.n ?_ | refine Idx.g rfl ?_ | refine Idx.z rfl ?_ | refine DrawOb.start ?_ | refine TryF.f ?_ | refine TryF.next rfl ?_ | refine TryF.other ?_ | refine TryA.g ?_ | refine TryA.next rfl ?_ | refine TryA.other ?_ | refine TryS.g ?_ | refine TryS.next rfl ?_ | refine TryS.other ?_ | refine TryG.g ?_ | refine TryG.next rfl ?_ | refine Sp.g (s) ?_ | refine Sp.g (s2) ?_ | refine Sp.g (s3) ?_)
  refine ⟨⟨_, _, rfl, rfl, ?_⟩⟩
  exact AvLe.refl _
end Go.Proofs.YtedfcemebdlgfaaGreatDoor

/- The dimensions for a character: what is refused; values at the roots. -/
namespace Go.Proofs.YtedfcemebdlgfaaGreatDoor
open Go Go.RowKit Go.VG HP
def charE (K N : Int) (X : Nat → Int) (l : Nat) : Int :=
  if K < 2 ∨ 24 < K then 2 else if chkE N X l ≠ 0 then chkE N X l else if ((valR N.toNat (fun i => (X i).toNat) (-1)).2.1 = 0 ↔ K % 2 = 0) then 0 else 16
def spZ : V1 := .agg [ix 0, ix 0, ix 0, ix 0, ix 0]
set_option maxHeartbeats 4000000 in
theorem character_bad (K N : Int) (X : Nat → Int) (l : Nat) (h : charE K N X l ≠ 0) : Sp CX 14 [int .i64 K, chA N X l] (.tup [spZ, .c (ix (charE K N X l))]) := by
  by_cases hr : K < 2 ∨ 24 < K
  · have e : charE K N X l = 2 := by unfold charE; rw [if_pos hr]
    rw [e]
    clear h e
    by_cases h2 : K < 2
    · refine fn_sp (C := CX) [] [] tysX_ok mixed Tryz.func14 rfl (by kernel_rfl) Tryz.ntmps14 rfl rfl ?_
      repeat' ((conv => whnf); first | refine Ob.g ?_ | refine Cases.y ?_ | refine Cases.n ?_ | refine Idx.g rfl ?_ | refine Idx.z rfl ?_ | refine DrawOb.start ?_ | refine TryF.f ?_ | refine TryF.next rfl ?_ | refine TryF.other ?_ | refine TryA.g ?_ | refine TryA.next rfl ?_ | refine TryA.other ?_ | refine TryS.g ?_ | refine TryS.next rfl ?_ | refine TryS.other ?_ | refine TryG.g ?_ | refine TryG.next rfl ?_)
      refine ⟨⟨_, _, rfl, rfl, ?_⟩⟩
      exact AvLe.refl _
    · have h3 : 24 < K := by omega
      refine fn_sp (C := CX) [] [] tysX_ok mixed Tryz.func14 rfl (by kernel_rfl) Tryz.ntmps14 rfl rfl ?_
      repeat' ((conv => whnf); first | refine Ob.g ?_ | refine Cases.y ?_ | refine Cases.n ?_ | refine Idx.g rfl ?_ | refine Idx.z rfl ?_ | refine DrawOb.start ?_ | refine TryF.f ?_ | refine TryF.next rfl ?_ | refine TryF.other ?_ | refine TryA.g ?_ | refine TryA.next rfl ?_ | refine TryA.other ?_ | refine TryS.g ?_ | refine TryS.next rfl ?_ | refine TryS.other ?_ | refine TryG.g ?_ | refine TryG.next rfl ?_)
      refine ⟨⟨_, _, rfl, rfl, ?_⟩⟩
      exact AvLe.refl _
  · have s1 := Conductor_sp N X l
    have s2 := Even_sp N X l
    by_cases hc : chkE N X l = 0
    · have e : charE K N X l = if ((valR N.toNat (fun i => (X i).toNat) (-1)).2.1 = 0 ↔ K % 2 = 0) then 0 else 16 := by unfold charE; rw [if_neg hr, if_neg (fun h => h hc)]
      rw [hc, if_pos rfl] at s1
      rw [hc, decide_eq_true rfl, Bool.true_and] at s2
      by_cases hp : ((valR N.toNat (fun i => (X i).toNat) (-1)).2.1 = 0 ↔ K % 2 = 0)
      · exact absurd (e.trans (if_pos hp)) h
      · rw [e, if_neg hp]
        clear h e hc
        have em : K.tmod 2 = K % 2 := Int.tmod_eq_emod_of_nonneg (by omega)
        generalize (valR N.toNat (fun i => (X i).toNat) (-1)).2.1 = v at *
        generalize cnd N.toNat (fun i => (X i).toNat) = f at *
        by_cases hv : v = 0
        · rw [decide_eq_true hv] at s2
          have hk : ¬ K % 2 = 0 := fun h => hp ⟨fun _ => h, fun _ => hv⟩
          have hb : (true == decide (K.tmod 2 = 0)) = false := by rw [em, decide_eq_false hk]; rfl
          refine fn_sp (C := CX) [] [] tysX_ok mixed Tryz.func14 rfl (by kernel_rfl) Tryz.ntmps14 rfl rfl ?_
          repeat' ((conv => whnf); first | refine Ob.g ?_ | refine Cases.y ?_ | refine Cases.n ?_ | refine Idx.g rfl ?_ | refine Idx.z rfl ?_ | refine DrawOb.start ?_ | refine TryF.f ?_ | refine TryF.next rfl ?_ | refine TryF.other ?_ | refine TryA.g ?_ | refine TryA.next rfl ?_ | refine TryA.other ?_ | refine TryS.g ?_ | refine TryS.next rfl ?_ | refine TryS.other ?_ | refine TryG.g ?_ | refine TryG.next rfl ?_ | refine Sp.g (s1) ?_ | refine Sp.g (s2) ?_)
          refine ⟨⟨_, _, rfl, rfl, ?_⟩⟩
          exact AvLe.refl _
        · rw [decide_eq_false hv] at s2
          have hk : K % 2 = 0 := by
            rcases Int.emod_two_eq K with h | h
            · exact h
            · exact absurd ⟨fun x => absurd x hv, fun x => by omega⟩ hp
          have hb : (false == decide (K.tmod 2 = 0)) = false := by rw [em, decide_eq_true hk]; rfl
          refine fn_sp (C := CX) [] [] tysX_ok mixed Tryz.func14 rfl (by kernel_rfl) Tryz.ntmps14 rfl rfl ?_
          repeat' ((conv => whnf); first | refine Ob.g ?_ | refine Cases.y ?_ | refine Cases.n ?_ | refine Idx.g rfl ?_ | refine Idx.z rfl ?_ | refine DrawOb.start ?_ | refine TryF.f ?_ | refine TryF.next rfl ?_ | refine TryF.other ?_ | refine TryA.g ?_ | refine TryA.next rfl ?_ | refine TryA.other ?_ | refine TryS.g ?_ | refine TryS.next rfl ?_ | refine TryS.other ?_ | refine TryG.g ?_ | refine TryG.next rfl ?_ | refine Sp.g (s1) ?_ | refine Sp.g (s2) ?_)
          refine ⟨⟨_, _, rfl, rfl, ?_⟩⟩
          exact AvLe.refl _
    · have e : charE K N X l = chkE N X l := by unfold charE; rw [if_neg hr, if_pos hc]
      rw [e]
      rw [if_neg hc] at s1
      generalize chkE N X l = c at *
      clear h e
      refine fn_sp (C := CX) [] [] tysX_ok mixed Tryz.func14 rfl (by kernel_rfl) Tryz.ntmps14 rfl rfl ?_
      repeat' ((conv => whnf); first | refine Ob.g ?_ | refine Cases.y ?_ | refine Cases.n ?_ | refine Idx.g rfl ?_ | refine Idx.z rfl ?_ | refine DrawOb.start ?_ | refine TryF.f ?_ | refine TryF.next rfl ?_ | refine TryF.other ?_ | refine TryA.g ?_ | refine TryA.next rfl ?_ | refine TryA.other ?_ | refine TryS.g ?_ | refine TryS.next rfl ?_ | refine TryS.other ?_ | refine TryG.g ?_ | refine TryG.next rfl ?_ | refine Sp.g (s1) ?_)
      refine ⟨⟨_, _, rfl, rfl, ?_⟩⟩
      exact AvLe.refl _
theorem cuspC_bad (K N : Int) (X : Nat → Int) (l : Nat) (h : charE K N X l ≠ 0) : Sp CX 5 [int .i64 K, chA N X l] (.tup [.c (ix 0), .c (ix (charE K N X l))]) := by
  have s := character_bad K N X l h
  generalize charE K N X l = e at *
  unfold spZ at s
  refine fn_sp (C := CX) [] [] tysX_ok mixed Tryz.func5 rfl (by kernel_rfl) Tryz.ntmps5 rfl rfl ?_
  repeat' ((conv => whnf); first | refine Ob.g ?_ | refine Cases.y ?_ | refine Cases.n ?_ | refine Idx.g rfl ?_ | refine Idx.z rfl ?_ | refine DrawOb.start ?_ | refine TryF.f ?_ | refine TryF.next rfl ?_ | refine TryF.other ?_ | refine TryA.g ?_ | refine TryA.next rfl ?_ | refine TryA.other ?_ | refine TryS.g ?_ | refine TryS.next rfl ?_ | refine TryS.other ?_ | refine TryG.g ?_ | refine TryG.next rfl ?_ | refine Sp.g (s) ?_)
  refine ⟨⟨_, _, rfl, rfl, ?_⟩⟩
  exact AvLe.refl _
theorem modC_bad (K N : Int) (X : Nat → Int) (l : Nat) (h : charE K N X l ≠ 0) : Sp CX 6 [int .i64 K, chA N X l] (.tup [.c (ix 0), .c (ix (charE K N X l))]) := by
  have s := character_bad K N X l h
  generalize charE K N X l = e at *
  unfold spZ at s
  refine fn_sp (C := CX) [] [] tysX_ok mixed Tryz.func6 rfl (by kernel_rfl) Tryz.ntmps6 rfl rfl ?_
  repeat' ((conv => whnf); first | refine Ob.g ?_ | refine Cases.y ?_ | refine Cases.n ?_ | refine Idx.g rfl ?_ | refine Idx.z rfl ?_ | refine DrawOb.start ?_ | refine TryF.f ?_ | refine TryF.next rfl ?_ | refine TryF.other ?_ | refine TryA.g ?_ | refine TryA.next rfl ?_ | refine TryA.other ?_ | refine TryS.g ?_ | refine TryS.next rfl ?_ | refine TryS.other ?_ | refine TryG.g ?_ | refine TryG.next rfl ?_ | refine Sp.g (s) ?_)
  refine ⟨⟨_, _, rfl, rfl, ?_⟩⟩
  exact AvLe.refl _
end Go.Proofs.YtedfcemebdlgfaaGreatDoor

/- Values of a character at the roots of a^2 + 1 and of a^2 + a + 1. -/
namespace Go.Proofs.YtedfcemebdlgfaaGreatDoor
open Go Go.RowKit Go.VG HP
theorem root_cop {n c a : Nat} (hz : (a * a + c * a + 1) % n = 0) : Nat.gcd a n = 1 := by
  have h1 : Nat.gcd a n ∣ a * a + c * a + 1 := Nat.dvd_trans (Nat.gcd_dvd_right a n) (Nat.dvd_of_mod_eq_zero hz)
  have h2 : Nat.gcd a n ∣ a * a + c * a := Nat.dvd_add (Nat.dvd_trans (Nat.gcd_dvd_left a n) (Nat.dvd_mul_right a a)) (Nat.dvd_trans (Nat.gcd_dvd_left a n) (Nat.dvd_mul_left a c))
  exact Nat.dvd_one.1 ((Nat.dvd_add_right h2).1 h1)
theorem val_unit {n : Nat} {E : Nat → Nat} {a : Nat} (h : Nat.gcd a n = 1) : valR n E (a : Int) = (false, (chv n E (a : Int)).1, (chv n E (a : Int)).2) := by
  unfold valR
  rw [if_pos (show Int.gcd (a : Int) n = 1 from h)]
theorem val_neg {n : Nat} (n0 : 1 ≤ n) (n1 : n ≤ 60) (E : Nat → Nat) : (valR n E (-1)).2.1 = 0 ↔ Vn n E (n - 1) = 0 := by
  have hg : Int.gcd (-1) n = 1 := by simp [Int.gcd]
  unfold valR
  rw [if_pos hg]
  show (chv n E (-1)).1 = 0 ↔ _
  rw [chv_rs n0 n1, show rs (-1) n = n - 1 from ?_, V_zero n0 n1]
  unfold rs
  have : (-1 : Int) % (n : Int) = ((n - 1 : Nat) : Int) := by
    have h : (-1 : Int) = ((n - 1 : Nat) : Int) + (n : Int) * (-1) := by omega
    rw [h, Int.add_mul_emod_self_left]
    exact Int.emod_eq_of_lt (by omega) (by omega)
  rw [this, Int.toNat_natCast]
theorem four_num {n a : Nat} (n0 : 1 ≤ n) (n1 : n ≤ 60) (E : Nat → Nat) (he : (valR n E (-1)).2.1 = 0) (hz : (a * a + 0 * a + 1) % n = 0) : (valR n E (a : Int)).2.1 = 0 ∨ (valR n E (a : Int)).2.1 = 1 := by
  have ga := root_cop hz
  rw [val_unit ga]
  show (chv n E a).1 = 0 ∨ (chv n E a).1 = 1
  have hv := (val_neg n0 n1 E).1 he
  have hm : (a * a) % n = (n - 1) % n := by
    rw [Nat.zero_mul, Nat.add_zero] at hz
    obtain ⟨q, hq⟩ := Nat.dvd_of_mod_eq_zero hz
    have hq0 : 1 ≤ q := by
      rcases Nat.eq_zero_or_pos q with h | h
      · rw [h, Nat.mul_zero] at hq; omega
      · exact h
    obtain ⟨r, rfl⟩ : ∃ r, q = r + 1 := ⟨q - 1, by omega⟩
    rw [Nat.mul_add, Nat.mul_one] at hq
    rw [show a * a = (n - 1) + n * r by omega, Nat.add_mul_mod_self_left]
  have h2 := V_mul (E := E) n0 n1 ga ga
  rw [V_mod n0 n1 hm, hv] at h2
  have hl := V_lt (E := E) n0 n1 a
  have hD := dn_pos n1 (np n) (Nat.le_refl _)
  rw [chv_V n0 n1]
  generalize Vn n E a = v at *
  generalize dn n (np n) = D at *
  rcases Nat.eq_zero_or_pos v with h | h
  · left
    rw [h, rt_zero hD, Nat.zero_mod]
  · right
    have e : D = 2 * v := by
      rcases Nat.lt_or_ge (v + v) D with h1 | h1
      · rw [Nat.mod_eq_of_lt h1] at h2; omega
      · rw [Nat.mod_eq_sub_mod h1, Nat.mod_eq_of_lt (by omega)] at h2; omega
    have r := rt_mul (N := 1) (D := 2) (k := v) (by omega) h
    rw [Nat.one_mul, ← e] at r
    rw [r]
    rfl
theorem four_val {n a : Nat} (n0 : 1 ≤ n) (n1 : n ≤ 60) (E : Nat → Nat) (he : (valR n E (-1)).2.1 = 0) (hz : (a * a + 0 * a + 1) % n = 0) : fourX n E a = 1 - 2 * ((valR n E (a : Int)).2.1 : Int) := by
  unfold fourX
  rcases four_num n0 n1 E he hz with h | h
  · rw [if_pos h, h]; rfl
  · rw [if_neg (by omega), h]; rfl
theorem third_den {n a c : Nat} (n0 : 1 ≤ n) (n1 : n ≤ 60) (E : Nat → Nat) (hz : (a * a + c * a + 1) % n = 0) : (valR n E (a : Int)).2.2 = 1 ↔ (valR n E (a : Int)).2.1 = 0 := by
  rw [val_unit (root_cop hz)]
  show (chv n E a).2 = 1 ↔ (chv n E a).1 = 0
  rw [chv_V n0 n1]
  obtain ⟨_, a2, a3, a4, _⟩ := rt_facts (N := Vn n E a) (dn_pos n1 (np n) (Nat.le_refl _))
  generalize rt (Vn n E a) (dn n (np n)) = p at *
  constructor
  · intro h; omega
  · intro h; rw [h, Nat.gcd_zero_left] at a3; exact a3
theorem val_ends {n : Nat} (n0 : 1 ≤ n) (n1 : n ≤ 60) (E : Nat → Nat) : valR n E ((0 : Nat) : Int) = valR n E (n : Int) := by
  unfold valR
  rw [chv_rs n0 n1 ((0 : Nat) : Int), chv_rs n0 n1 (n : Int), rs_cast, rs_cast, Nat.mod_self, Nat.zero_mod]
  rw [show Int.gcd ((0 : Nat) : Int) n = n from Nat.gcd_zero_left n, show Int.gcd (n : Int) n = n from Nat.gcd_self n]
theorem four_R {n : Nat} (n0 : 1 ≤ n) (n1 : n ≤ 60) (E : Nat → Nat) : rootS n 0 (fourX n E) n = rootR n 0 (fourX n E) n :=
  rootS_rootR n0 _ _ (fun _ _ => rfl) (by unfold fourX; rw [val_ends n0 n1])
theorem third_R {n : Nat} (n0 : 1 ≤ n) (n1 : n ≤ 60) (E : Nat → Nat) : rootS n 1 (thirdX n E) n = rootR n 1 (thirdX n E) n :=
  rootS_rootR n0 _ _ (fun _ _ => rfl) (by unfold thirdX; rw [val_ends n0 n1])
end Go.Proofs.YtedfcemebdlgfaaGreatDoor

/- The reference's dimensions for a character; the law. -/
namespace Go.Proofs.YtedfcemebdlgfaaGreatDoor
open Go Go.RowKit Go.VG HP
theorem oneB_neg1 {n : Nat} {E : Nat → Nat} : oneB (valR n E (-1)) = decide ((valR n E (-1)).2.1 = 0) := by
  have hg : Int.gcd (-1) n = 1 := by simp
  unfold oneB valR
  rw [if_pos hg]
  simp only [Bool.not_false, Bool.true_and]
  by_cases h : (chv n E (-1)).1 = 0
  · rw [h]; rfl
  · rw [nbeq_ff h, decide_eq_false h]
set_option maxHeartbeats 4000000 in
theorem canC_sp (K N : Int) (X : Nat → Int) (l : Nat) : Sp CX 7 [int .i64 K, chA N X l] (int .i64 (charE K N X l)) := by
  by_cases hr : K < 2 ∨ 24 < K
  · have e : charE K N X l = 2 := by unfold charE; rw [if_pos hr]
    rw [e]
    clear e
    by_cases h2 : K < 2
    · refine fn_sp (C := CX) [] [] tysX_ok mixed Tryz.func7 rfl (by kernel_rfl) Tryz.ntmps7 rfl rfl ?_
      repeat' ((conv => whnf); first | refine Ob.g ?_ | refine Cases.y ?_ | refine Cases.n ?_ | refine Idx.g rfl ?_ | refine Idx.z rfl ?_ | refine DrawOb.start ?_ | refine TryF.f ?_ | refine TryF.next rfl ?_ | refine TryF.other ?_ | refine TryA.g ?_ | refine TryA.next rfl ?_ | refine TryA.other ?_ | refine TryS.g ?_ | refine TryS.next rfl ?_ | refine TryS.other ?_ | refine TryG.g ?_ | refine TryG.next rfl ?_)
      refine ⟨⟨_, _, rfl, rfl, ?_⟩⟩
      exact AvLe.refl _
    · have h3 : 24 < K := by omega
      refine fn_sp (C := CX) [] [] tysX_ok mixed Tryz.func7 rfl (by kernel_rfl) Tryz.ntmps7 rfl rfl ?_
      repeat' ((conv => whnf); first | refine Ob.g ?_ | refine Cases.y ?_ | refine Cases.n ?_ | refine Idx.g rfl ?_ | refine Idx.z rfl ?_ | refine DrawOb.start ?_ | refine TryF.f ?_ | refine TryF.next rfl ?_ | refine TryF.other ?_ | refine TryA.g ?_ | refine TryA.next rfl ?_ | refine TryA.other ?_ | refine TryS.g ?_ | refine TryS.next rfl ?_ | refine TryS.other ?_ | refine TryG.g ?_ | refine TryG.next rfl ?_)
      refine ⟨⟨_, _, rfl, rfl, ?_⟩⟩
      exact AvLe.refl _
  · have s1 := rchk_sp N X l
    by_cases hc : chkE N X l = 0
    · have e : charE K N X l = if ((valR N.toNat (fun i => (X i).toNat) (-1)).2.1 = 0 ↔ K % 2 = 0) then 0 else 16 := by unfold charE; rw [if_neg hr, if_neg (fun h => h hc)]
      obtain ⟨n, rfl, ok⟩ := chk_out hc
      have s2 := revn_sp ok
      rw [oneB_neg1] at s2
      rw [hc] at s1
      rw [e, Int.toNat_natCast]
      clear e
      have em : K.tmod 2 = K % 2 := Int.tmod_eq_emod_of_nonneg (by omega)
      generalize (valR n (fun i => (X i).toNat) (-1)).2.1 = v at *
      by_cases hv : v = 0
      · rw [decide_eq_true hv] at s2
        by_cases hk : K % 2 = 0
        · rw [if_pos ⟨fun _ => hk, fun _ => hv⟩]
          have hb : (true == decide (K.tmod 2 = 0)) = true := by rw [em, decide_eq_true hk]; rfl
          refine fn_sp (C := CX) [] [] tysX_ok mixed Tryz.func7 rfl (by kernel_rfl) Tryz.ntmps7 rfl rfl ?_
          repeat' ((conv => whnf); first | refine Ob.g ?_ | refine Cases.y ?_ | refine Cases.n ?_ | refine Idx.g rfl ?_ | refine Idx.z rfl ?_ | refine DrawOb.start ?_ | refine TryF.f ?_ | refine TryF.next rfl ?_ | refine TryF.other ?_ | refine TryA.g ?_ | refine TryA.next rfl ?_ | refine TryA.other ?_ | refine TryS.g ?_ | refine TryS.next rfl ?_ | refine TryS.other ?_ | refine TryG.g ?_ | refine TryG.next rfl ?_ | refine Sp.g (s1) ?_ | refine Sp.g (s2) ?_)
          refine ⟨⟨_, _, rfl, rfl, ?_⟩⟩
          exact AvLe.refl _
        · rw [if_neg (fun h => hk (h.1 hv))]
          have hb : (true == decide (K.tmod 2 = 0)) = false := by rw [em, decide_eq_false hk]; rfl
          refine fn_sp (C := CX) [] [] tysX_ok mixed Tryz.func7 rfl (by kernel_rfl) Tryz.ntmps7 rfl rfl ?_
          repeat' ((conv => whnf); first | refine Ob.g ?_ | refine Cases.y ?_ | refine Cases.n ?_ | refine Idx.g rfl ?_ | refine Idx.z rfl ?_ | refine DrawOb.start ?_ | refine TryF.f ?_ | refine TryF.next rfl ?_ | refine TryF.other ?_ | refine TryA.g ?_ | refine TryA.next rfl ?_ | refine TryA.other ?_ | refine TryS.g ?_ | refine TryS.next rfl ?_ | refine TryS.other ?_ | refine TryG.g ?_ | refine TryG.next rfl ?_ | refine Sp.g (s1) ?_ | refine Sp.g (s2) ?_)
          refine ⟨⟨_, _, rfl, rfl, ?_⟩⟩
          exact AvLe.refl _
      · rw [decide_eq_false hv] at s2
        by_cases hk : K % 2 = 0
        · rw [if_neg (fun h => hv (h.2 hk))]
          have hb : (false == decide (K.tmod 2 = 0)) = false := by rw [em, decide_eq_true hk]; rfl
          refine fn_sp (C := CX) [] [] tysX_ok mixed Tryz.func7 rfl (by kernel_rfl) Tryz.ntmps7 rfl rfl ?_
          repeat' ((conv => whnf); first | refine Ob.g ?_ | refine Cases.y ?_ | refine Cases.n ?_ | refine Idx.g rfl ?_ | refine Idx.z rfl ?_ | refine DrawOb.start ?_ | refine TryF.f ?_ | refine TryF.next rfl ?_ | refine TryF.other ?_ | refine TryA.g ?_ | refine TryA.next rfl ?_ | refine TryA.other ?_ | refine TryS.g ?_ | refine TryS.next rfl ?_ | refine TryS.other ?_ | refine TryG.g ?_ | refine TryG.next rfl ?_ | refine Sp.g (s1) ?_ | refine Sp.g (s2) ?_)
          refine ⟨⟨_, _, rfl, rfl, ?_⟩⟩
          exact AvLe.refl _
        · rw [if_pos ⟨fun h => absurd h hv, fun h => absurd h hk⟩]
          have hb : (false == decide (K.tmod 2 = 0)) = true := by rw [em, decide_eq_false hk]; rfl
          refine fn_sp (C := CX) [] [] tysX_ok mixed Tryz.func7 rfl (by kernel_rfl) Tryz.ntmps7 rfl rfl ?_
          repeat' ((conv => whnf); first | refine Ob.g ?_ | refine Cases.y ?_ | refine Cases.n ?_ | refine Idx.g rfl ?_ | refine Idx.z rfl ?_ | refine DrawOb.start ?_ | refine TryF.f ?_ | refine TryF.next rfl ?_ | refine TryF.other ?_ | refine TryA.g ?_ | refine TryA.next rfl ?_ | refine TryA.other ?_ | refine TryS.g ?_ | refine TryS.next rfl ?_ | refine TryS.other ?_ | refine TryG.g ?_ | refine TryG.next rfl ?_ | refine Sp.g (s1) ?_ | refine Sp.g (s2) ?_)
          refine ⟨⟨_, _, rfl, rfl, ?_⟩⟩
          exact AvLe.refl _
    · have e : charE K N X l = chkE N X l := by unfold charE; rw [if_neg hr, if_pos hc]
      rw [e]
      generalize chkE N X l = c at *
      clear e
      refine fn_sp (C := CX) [] [] tysX_ok mixed Tryz.func7 rfl (by kernel_rfl) Tryz.ntmps7 rfl rfl ?_
      repeat' ((conv => whnf); first | refine Ob.g ?_ | refine Cases.y ?_ | refine Cases.n ?_ | refine Idx.g rfl ?_ | refine Idx.z rfl ?_ | refine DrawOb.start ?_ | refine TryF.f ?_ | refine TryF.next rfl ?_ | refine TryF.other ?_ | refine TryA.g ?_ | refine TryA.next rfl ?_ | refine TryA.other ?_ | refine TryS.g ?_ | refine TryS.next rfl ?_ | refine TryS.other ?_ | refine TryG.g ?_ | refine TryG.next rfl ?_ | refine Sp.g (s1) ?_)
      refine ⟨⟨_, _, rfl, rfl, ?_⟩⟩
      exact AvLe.refl _
theorem rootR_bd {n c : Nat} {g : Nat → Int} (hg : ∀ a, -2 ≤ g a ∧ g a ≤ 2) : ∀ m : Nat, -(2 * m : Int) ≤ rootR n c g m ∧ rootR n c g m ≤ 2 * m
  | 0 => by simp [rootR]
  | m + 1 => by
    have ih := rootR_bd (n := n) (c := c) hg m
    have h := hg (m + 1)
    rw [rootR]
    split <;> (push_cast; omega)
theorem fourX_2 (n : Nat) (E : Nat → Nat) (a : Nat) : -2 ≤ fourX n E a ∧ fourX n E a ≤ 2 := by unfold fourX; split <;> omega
theorem thirdX_2 (n : Nat) (E : Nat → Nat) (a : Nat) : -2 ≤ thirdX n E a ∧ thirdX n E a ≤ 2 := by unfold thirdX; split <;> omega
/-- the sums of the reference before a -/
def F4 (n k : Nat) (E : Nat → Nat) (a : Nat) : Int := if k % 2 = 0 then rootR n 0 (fourX n E) (a - 1) else 0
def T3 (n : Nat) (E : Nat → Nat) (a : Nat) : Int := rootR n 1 (thirdX n E) (a - 1)
theorem F4_bd {n k : Nat} {E : Nat → Nat} {a : Nat} (h : a ≤ 61) : -200 ≤ F4 n k E a ∧ F4 n k E a ≤ 200 := by
  have := rootR_bd (n := n) (c := 0) (fourX_2 n E) (a - 1)
  unfold F4
  split <;> omega
theorem T3_bd {n : Nat} {E : Nat → Nat} {a : Nat} (h : a ≤ 61) : -200 ≤ T3 n E a ∧ T3 n E a ≤ 200 := by
  have := rootR_bd (n := n) (c := 1) (thirdX_2 n E) (a - 1)
  unfold T3
  omega
theorem rootR_at {n c : Nat} {g : Nat → Int} {a : Nat} (ha : 1 ≤ a) : rootR n c g (a + 1 - 1) = rootR n c g (a - 1) + if (a * a + c * a + 1) % n = 0 then g a else 0 := by
  obtain ⟨q, rfl⟩ : ∃ q, a = q + 1 := ⟨a - 1, by omega⟩
  rfl
theorem F4_step {n k : Nat} {E : Nat → Nat} {a : Nat} (n0 : 1 ≤ n) (n1 : n ≤ 60) (he : (valR n E (-1)).2.1 = 0 ↔ k % 2 = 0) (ha : 1 ≤ a) :
    F4 n k E (a + 1) = F4 n k E a + if k % 2 = 0 ∧ (a * a + 1) % n = 0 then 1 - 2 * ((valR n E (a : Int)).2.1 : Int) else 0 := by
  unfold F4
  by_cases hk : k % 2 = 0
  · rw [if_pos hk, if_pos hk, rootR_at ha]
    congr 1
    rw [show a * a + 0 * a + 1 = a * a + 1 by omega]
    by_cases hz : (a * a + 1) % n = 0
    · rw [if_pos hz, if_pos ⟨hk, hz⟩]
      exact four_val n0 n1 E (he.2 hk) (by rw [show a * a + 0 * a + 1 = a * a + 1 by omega]; exact hz)
    · rw [if_neg hz, if_neg (fun h => hz h.2)]
  · rw [if_neg hk, if_neg hk, if_neg (fun h => hk h.1)]
    rfl
theorem T3_step {n : Nat} {E : Nat → Nat} {a : Nat} (n0 : 1 ≤ n) (n1 : n ≤ 60) (ha : 1 ≤ a) :
    T3 n E (a + 1) = T3 n E a + if (a * a + a + 1) % n = 0 then (if (valR n E (a : Int)).2.2 = 1 then 2 else -1) else 0 := by
  unfold T3
  rw [rootR_at ha]
  congr 1
  rw [show a * a + 1 * a + 1 = a * a + a + 1 by omega]
  by_cases hz : (a * a + a + 1) % n = 0
  · rw [if_pos hz, if_pos hz]
    have hd := third_den (c := 1) n0 n1 E (show (a * a + 1 * a + 1) % n = 0 by rw [show a * a + 1 * a + 1 = a * a + a + 1 by omega]; exact hz)
    unfold thirdX
    by_cases h : (valR n E (a : Int)).2.1 = 0
    · rw [if_pos h, if_pos (hd.2 h)]
    · rw [if_neg h, if_neg (fun x => h (hd.1 x))]
  · rw [if_neg hz, if_neg hz]
set_option maxHeartbeats 16000000 in
theorem rcuspC_sp {n k f : Nat} {X : Nat → Int} {l : Nat} (h : CrOk n k f X l) : Sp CX 8 [int .i64 k, chA n X l]
    (int .i64 ((dim12 n k f (F4 n k (fun i => (X i).toNat) (n + 1)) (T3 n (fun i => (X i).toNat) (n + 1))).tdiv 12)) := by
  obtain ⟨hc, n0, n1, k0, k1, hf, hp⟩ := h
  obtain ⟨n', hn', ok⟩ := chk_out hc
  obtain rfl : n = n' := by omega
  obtain ⟨f1, f2, f3⟩ := cnd_dvd n0 n1 (fun i => (X i).toNat)
  have s1 := rcnd_sp ok
  rw [hf] at f1 f2 f3 s1
  have S2 := Lib.hid (fun a : Nat => fun (h : a ≤ 61) => rval_sp ok (a : Int) (by omega) (by omega))
  have SF := Lib.hid (fun a : Nat => fun (h : 1 ≤ a) => F4_step (a := a) n0 n1 hp h)
  have ST := Lib.hid (fun a : Nat => fun (h : 1 ≤ a) => T3_step (E := fun i => (X i).toNat) (a := a) n0 n1 h)
  have BF := Lib.hid (fun a : Nat => fun (h : a ≤ 61) => F4_bd (n := n) (k := k) (E := fun i => (X i).toNat) (a := a) h)
  have BT := Lib.hid (fun a : Nat => fun (h : a ≤ 61) => T3_bd (n := n) (E := fun i => (X i).toNat) (a := a) h)
  have U := Lib.hid (fun a : Nat => val_unit (n := n) (E := fun i => (X i).toNat) (a := a))
  have vz : ∀ a : Nat, Nat.gcd a n ≠ 1 → valR n (fun i => (X i).toNat) (a : Int) = (true, 0, 0) := fun a h => by
    unfold valR
    rw [if_neg (show ¬ Int.gcd (a : Int) n = 1 from h)]
  have VZ := Lib.hid vz
  have s4 := formula_sp n k f (F4 n k (fun i => (X i).toNat) (n + 1)) (T3 n (fun i => (X i).toNat) (n + 1)) n0 (by omega) f2 (by omega) f1 k0 k1 (by have := BF.out (n + 1) (by omega); omega) (by have := BF.out (n + 1) (by omega); omega) (by have := BT.out (n + 1) (by omega); omega) (by have := BT.out (n + 1) (by omega); omega)
  have z4 : F4 n k (fun i => (X i).toNat) 1 = 0 := by unfold F4; split <;> rfl
  have z3 : T3 n (fun i => (X i).toNat) 1 = 0 := rfl
  clear hc hf hp ok vz
  generalize hE : (fun i => (X i).toNat) = E at *
  clear hE
  have ek : (k : Int).tmod 2 = ((k % 2 : Nat) : Int) := (Int.ofNat_tmod k 2).symm
  refine fn_sp (C := CX) [] [] tysX_ok mixed Tryz.func8 rfl (by kernel_rfl) Tryz.ntmps8 rfl rfl ?_
  repeat' ((conv => whnf); first | refine Ob.g ?_ | refine Cases.y ?_ | refine Cases.n ?_ | refine Idx.g rfl ?_ | refine Idx.z rfl ?_ | refine DrawOb.start ?_ | refine TryF.f ?_ | refine TryF.next rfl ?_ | refine TryF.other ?_ | refine TryA.g ?_ | refine TryA.next rfl ?_ | refine TryA.other ?_ | refine TryS.g ?_ | refine TryS.next rfl ?_ | refine TryS.other ?_ | refine TryG.g ?_ | refine TryG.next rfl ?_)
  refine ⟨⟨Nat, fun a => ⟨[(0, int .i64 k), (3, .v (.c (.loc 0 0))), (5, int .i64 n), (6, int .i64 (F4 n k E a)), (7, int .i64 (T3 n E a)), (8, int .i64 a)], [(0, .st [ix n, xsL X l])], 1⟩, fun a => 1 ≤ a ∧ a ≤ n + 1, fun a => n + 1 - a, ⟨1, [], ⟨Nat.le_refl _, by omega⟩, by
    refine ⟨?_, .cons rfl (.refl _) .nil, rfl⟩
    repeat (first | exact TmE.nil | refine TmE.cons (by first | exact AvLe.refl _ | exact AvLe.int (by omega)) ?_)⟩, ?_⟩⟩
  rintro a ⟨a1, a2⟩
  by_cases han : a ≤ n
  · have s2 := S2.out a (by omega)
    have sf := SF.out a a1
    have st := ST.out a a1
    have bf := BF.out a (by omega)
    have bt := BT.out a (by omega)
    have bf' := BF.out (a + 1) (by omega)
    have bt' := BT.out (a + 1) (by omega)
    have hm : n + 1 - (a + 1) < n + 1 - a := by omega
    have paa : a * a ≤ 60 * 60 := Nat.mul_le_mul (by omega) (by omega)
    have ep : (a : Int) * a = ((a * a : Nat) : Int) := by push_cast; rfl
    have e1 : (((a * a : Nat) : Int) + 1).tmod n = (((a * a + 1) % n : Nat) : Int) := by rw [show ((a * a : Nat) : Int) + 1 = ((a * a + 1 : Nat) : Int) by omega]; exact (Int.ofNat_tmod _ _).symm
    have e2 : (((a * a : Nat) : Int) + a + 1).tmod n = (((a * a + a + 1) % n : Nat) : Int) := by rw [show ((a * a : Nat) : Int) + a + 1 = ((a * a + a + 1 : Nat) : Int) by omega]; exact (Int.ofNat_tmod _ _).symm
    rw [← ep] at e1 e2
    have bp0 : 0 ≤ (a : Int) * a := Int.mul_nonneg (by omega) (by omega)
    have bp1 : (a : Int) * a ≤ 60 * 60 := Int.mul_le_mul (by omega) (by omega) (by omega) (by omega)
    clear ep paa
    by_cases hg : Nat.gcd a n = 1
    · have hv := U.out a hg
      obtain ⟨u, hu⟩ : ∃ u, u = (chv n E (a : Int)).1 := ⟨_, rfl⟩
      obtain ⟨d, hd⟩ : ∃ d, d = (chv n E (a : Int)).2 := ⟨_, rfl⟩
      rw [← hu, ← hd] at hv
      have hub : u ≤ 1000 ∧ d ≤ 1000 := by
        have := val_bd n1 E (a := (a : Int)) hg
        rw [hv] at this
        obtain ⟨_, b2, b3, _⟩ := this
        exact ⟨Nat.le_trans (Nat.le_of_lt b3) (Nat.le_trans b2 (by omega)), Nat.le_trans b2 (by omega)⟩
      rw [hv] at s2 sf st
      unfold ruT at s2
      dsimp only at sf st s2
      clear hv hu hd s4 s1 S2 SF ST BF BT U VZ z4 z3
      generalize (a * a + 1) % n = q1 at *
      generalize (a * a + a + 1) % n = q2 at *
      by_cases z1 : q1 = 0
      · by_cases zk : k % 2 = 0
        · by_cases z2 : q2 = 0
          · by_cases zd : d = 1
            · rw [if_pos ⟨zk, z1⟩] at sf
              rw [if_pos z2, if_pos zd] at st
              repeat' ((conv => whnf); first | refine Ob.g ?_ | refine Cases.y ?_ | refine Cases.n ?_ | refine Idx.g rfl ?_ | refine Idx.z rfl ?_ | refine DrawOb.start ?_ | refine TryF.f ?_ | refine TryF.next rfl ?_ | refine TryF.other ?_ | refine TryA.g ?_ | refine TryA.next rfl ?_ | refine TryA.other ?_ | refine TryS.g ?_ | refine TryS.next rfl ?_ | refine TryS.other ?_ | refine TryG.g ?_ | refine TryG.next rfl ?_ | refine Sp.g (s2) ?_)
              exact ⟨a + 1, [], ⟨by omega, by omega⟩, hm, Ent.g⟩
            · rw [if_pos ⟨zk, z1⟩] at sf
              rw [if_pos z2, if_neg zd] at st
              repeat' ((conv => whnf); first | refine Ob.g ?_ | refine Cases.y ?_ | refine Cases.n ?_ | refine Idx.g rfl ?_ | refine Idx.z rfl ?_ | refine DrawOb.start ?_ | refine TryF.f ?_ | refine TryF.next rfl ?_ | refine TryF.other ?_ | refine TryA.g ?_ | refine TryA.next rfl ?_ | refine TryA.other ?_ | refine TryS.g ?_ | refine TryS.next rfl ?_ | refine TryS.other ?_ | refine TryG.g ?_ | refine TryG.next rfl ?_ | refine Sp.g (s2) ?_)
              exact ⟨a + 1, [], ⟨by omega, by omega⟩, hm, Ent.g⟩
          · rw [if_pos ⟨zk, z1⟩] at sf
            rw [if_neg z2, Int.add_zero] at st
            repeat' ((conv => whnf); first | refine Ob.g ?_ | refine Cases.y ?_ | refine Cases.n ?_ | refine Idx.g rfl ?_ | refine Idx.z rfl ?_ | refine DrawOb.start ?_ | refine TryF.f ?_ | refine TryF.next rfl ?_ | refine TryF.other ?_ | refine TryA.g ?_ | refine TryA.next rfl ?_ | refine TryA.other ?_ | refine TryS.g ?_ | refine TryS.next rfl ?_ | refine TryS.other ?_ | refine TryG.g ?_ | refine TryG.next rfl ?_ | refine Sp.g (s2) ?_)
            exact ⟨a + 1, [], ⟨by omega, by omega⟩, hm, Ent.g⟩
        · by_cases z2 : q2 = 0
          · by_cases zd : d = 1
            · rw [if_neg (fun h => zk h.1), Int.add_zero] at sf
              rw [if_pos z2, if_pos zd] at st
              repeat' ((conv => whnf); first | refine Ob.g ?_ | refine Cases.y ?_ | refine Cases.n ?_ | refine Idx.g rfl ?_ | refine Idx.z rfl ?_ | refine DrawOb.start ?_ | refine TryF.f ?_ | refine TryF.next rfl ?_ | refine TryF.other ?_ | refine TryA.g ?_ | refine TryA.next rfl ?_ | refine TryA.other ?_ | refine TryS.g ?_ | refine TryS.next rfl ?_ | refine TryS.other ?_ | refine TryG.g ?_ | refine TryG.next rfl ?_ | refine Sp.g (s2) ?_)
              exact ⟨a + 1, [], ⟨by omega, by omega⟩, hm, Ent.g⟩
            · rw [if_neg (fun h => zk h.1), Int.add_zero] at sf
              rw [if_pos z2, if_neg zd] at st
              repeat' ((conv => whnf); first | refine Ob.g ?_ | refine Cases.y ?_ | refine Cases.n ?_ | refine Idx.g rfl ?_ | refine Idx.z rfl ?_ | refine DrawOb.start ?_ | refine TryF.f ?_ | refine TryF.next rfl ?_ | refine TryF.other ?_ | refine TryA.g ?_ | refine TryA.next rfl ?_ | refine TryA.other ?_ | refine TryS.g ?_ | refine TryS.next rfl ?_ | refine TryS.other ?_ | refine TryG.g ?_ | refine TryG.next rfl ?_ | refine Sp.g (s2) ?_)
              exact ⟨a + 1, [], ⟨by omega, by omega⟩, hm, Ent.g⟩
          · rw [if_neg (fun h => zk h.1), Int.add_zero] at sf
            rw [if_neg z2, Int.add_zero] at st
            repeat' ((conv => whnf); first | refine Ob.g ?_ | refine Cases.y ?_ | refine Cases.n ?_ | refine Idx.g rfl ?_ | refine Idx.z rfl ?_ | refine DrawOb.start ?_ | refine TryF.f ?_ | refine TryF.next rfl ?_ | refine TryF.other ?_ | refine TryA.g ?_ | refine TryA.next rfl ?_ | refine TryA.other ?_ | refine TryS.g ?_ | refine TryS.next rfl ?_ | refine TryS.other ?_ | refine TryG.g ?_ | refine TryG.next rfl ?_ | refine Sp.g (s2) ?_)
            exact ⟨a + 1, [], ⟨by omega, by omega⟩, hm, Ent.g⟩
      · by_cases z2 : q2 = 0
        · by_cases zd : d = 1
          · rw [if_neg (fun h => z1 h.2), Int.add_zero] at sf
            rw [if_pos z2, if_pos zd] at st
            repeat' ((conv => whnf); first | refine Ob.g ?_ | refine Cases.y ?_ | refine Cases.n ?_ | refine Idx.g rfl ?_ | refine Idx.z rfl ?_ | refine DrawOb.start ?_ | refine TryF.f ?_ | refine TryF.next rfl ?_ | refine TryF.other ?_ | refine TryA.g ?_ | refine TryA.next rfl ?_ | refine TryA.other ?_ | refine TryS.g ?_ | refine TryS.next rfl ?_ | refine TryS.other ?_ | refine TryG.g ?_ | refine TryG.next rfl ?_ | refine Sp.g (s2) ?_)
            exact ⟨a + 1, [], ⟨by omega, by omega⟩, hm, Ent.g⟩
          · rw [if_neg (fun h => z1 h.2), Int.add_zero] at sf
            rw [if_pos z2, if_neg zd] at st
            repeat' ((conv => whnf); first | refine Ob.g ?_ | refine Cases.y ?_ | refine Cases.n ?_ | refine Idx.g rfl ?_ | refine Idx.z rfl ?_ | refine DrawOb.start ?_ | refine TryF.f ?_ | refine TryF.next rfl ?_ | refine TryF.other ?_ | refine TryA.g ?_ | refine TryA.next rfl ?_ | refine TryA.other ?_ | refine TryS.g ?_ | refine TryS.next rfl ?_ | refine TryS.other ?_ | refine TryG.g ?_ | refine TryG.next rfl ?_ | refine Sp.g (s2) ?_)
            exact ⟨a + 1, [], ⟨by omega, by omega⟩, hm, Ent.g⟩
        · rw [if_neg (fun h => z1 h.2), Int.add_zero] at sf
          rw [if_neg z2, Int.add_zero] at st
          repeat' ((conv => whnf); first | refine Ob.g ?_ | refine Cases.y ?_ | refine Cases.n ?_ | refine Idx.g rfl ?_ | refine Idx.z rfl ?_ | refine DrawOb.start ?_ | refine TryF.f ?_ | refine TryF.next rfl ?_ | refine TryF.other ?_ | refine TryA.g ?_ | refine TryA.next rfl ?_ | refine TryA.other ?_ | refine TryS.g ?_ | refine TryS.next rfl ?_ | refine TryS.other ?_ | refine TryG.g ?_ | refine TryG.next rfl ?_ | refine Sp.g (s2) ?_)
          exact ⟨a + 1, [], ⟨by omega, by omega⟩, hm, Ent.g⟩
    · have hv := VZ.out a hg
      have hr1 : (a * a + 1) % n ≠ 0 := fun h => hg (root_cop (c := 0) (by rw [show a * a + 0 * a + 1 = a * a + 1 by omega]; exact h))
      have hr2 : (a * a + a + 1) % n ≠ 0 := fun h => hg (root_cop (c := 1) (by rw [show a * a + 1 * a + 1 = a * a + a + 1 by omega]; exact h))
      rw [if_neg (fun h => hr1 h.2), Int.add_zero] at sf
      rw [if_neg hr2, Int.add_zero] at st
      rw [hv] at s2
      clear hv s4 s1 S2 SF ST BF BT U VZ z4 z3
      repeat' ((conv => whnf); first | refine Ob.g ?_ | refine Cases.y ?_ | refine Cases.n ?_ | refine Idx.g rfl ?_ | refine Idx.z rfl ?_ | refine DrawOb.start ?_ | refine TryF.f ?_ | refine TryF.next rfl ?_ | refine TryF.other ?_ | refine TryA.g ?_ | refine TryA.next rfl ?_ | refine TryA.other ?_ | refine TryS.g ?_ | refine TryS.next rfl ?_ | refine TryS.other ?_ | refine TryG.g ?_ | refine TryG.next rfl ?_ | refine Sp.g (s2) ?_)
      exact ⟨a + 1, [], ⟨by omega, by omega⟩, hm, Ent.g⟩
  · obtain rfl : a = n + 1 := by omega
    clear S2 SF ST BF BT U VZ z4 z3
    repeat' ((conv => whnf); first | refine Ob.g ?_ | refine Cases.y ?_ | refine Cases.n ?_ | refine Idx.g rfl ?_ | refine Idx.z rfl ?_ | refine DrawOb.start ?_ | refine TryF.f ?_ | refine TryF.next rfl ?_ | refine TryF.other ?_ | refine TryA.g ?_ | refine TryA.next rfl ?_ | refine TryA.other ?_ | refine TryS.g ?_ | refine TryS.next rfl ?_ | refine TryS.other ?_ | refine TryG.g ?_ | refine TryG.next rfl ?_ | refine Sp.g (s1) ?_ | refine Sp.g (s4) ?_)
    refine ⟨⟨_, _, rfl, rfl, ?_⟩⟩
    exact AvLe.refl _
end Go.Proofs.YtedfcemebdlgfaaGreatDoor

/- The law of the dimensions for a character. -/
namespace Go.Proofs.YtedfcemebdlgfaaGreatDoor
open Go Go.RowKit Go.VG HP
theorem dimC_eq {n k f : Nat} (n0 : 1 ≤ n) (n1 : n ≤ 60) (E : Nat → Nat) : dim12 n k f (F4 n k E (n + 1)) (T3 n E (n + 1)) = dim12 n k f (rootS n 0 (fourX n E) n) (rootS n 1 (thirdX n E) n) := by
  have e3 : T3 n E (n + 1) = rootS n 1 (thirdX n E) n := (third_R n0 n1 E).symm
  rw [e3]
  by_cases hk : k % 2 = 0
  · have e4 : F4 n k E (n + 1) = rootS n 0 (fourX n E) n := by
      unfold F4
      rw [if_pos hk]
      exact (four_R n0 n1 E).symm
    rw [e4]
  · unfold dim12
    rw [if_neg (show ¬ k % 4 = 0 by omega), if_neg (show ¬ k % 4 = 2 by omega), if_neg (show ¬ k % 4 = 0 by omega), if_neg (show ¬ k % 4 = 2 by omega)]
theorem dimC_bd {n k f : Nat} (n0 : 1 ≤ n) (n1 : n ≤ 60) (k0 : 2 ≤ k) (k1 : k ≤ 24) (E : Nat → Nat) : -100000 ≤ (dim12 n k f (rootS n 0 (fourX n E) n) (rootS n 1 (thirdX n E) n)).tdiv 12 ∧ (dim12 n k f (rootS n 0 (fourX n E) n) (rootS n 1 (thirdX n E) n)).tdiv 12 ≤ 100000 := by
  have b1 := fourX_bd (n := n) (E := E) n
  have b2 := thirdX_bd (n := n) (E := E) n
  have b3 := lam_small (f := f) n0 (show n ≤ 120 by omega)
  have b4 := mul_small n0 (show n ≤ 120 by omega) (show 1 ≤ k by omega) k1
  generalize rootS n 0 (fourX n E) n = x at *
  generalize rootS n 1 (thirdX n E) n = y at *
  have hb : -1000000 ≤ dim12 n k f x y ∧ dim12 n k f x y ≤ 1000000 := by
    unfold dim12
    generalize ((k : Int) - 1) * psi n = p at *
    generalize lam f n = q at *
    have h1 : -1000 ≤ (if k % 4 = 0 then 3 * x else if k % 4 = 2 then -(3 * x) else 0) ∧ (if k % 4 = 0 then 3 * x else if k % 4 = 2 then -(3 * x) else 0) ≤ 1000 := by split <;> (try split) <;> omega
    have h2 : -1000 ≤ (if k % 3 = 0 then 2 * y else if k % 3 = 2 then -(2 * y) else 0) ∧ (if k % 3 = 0 then 2 * y else if k % 3 = 2 then -(2 * y) else 0) ≤ 1000 := by split <;> (try split) <;> omega
    have h3 : 0 ≤ (if k = 2 ∧ f = 1 then (12 : Int) else 0) ∧ (if k = 2 ∧ f = 1 then (12 : Int) else 0) ≤ 12 := by split <;> omega
    omega
  generalize dim12 n k f x y = z at *
  rw [Int.tdiv_eq_ediv, show Int.sign 12 = 1 from rfl]
  split <;> omega
set_option maxHeartbeats 4000000 in
theorem rmodC_sp {n k f : Nat} {X : Nat → Int} {l : Nat} (h : CrOk n k f X l) : Sp CX 9 [int .i64 k, chA n X l]
    (int .i64 ((dim12 n k f (rootS n 0 (fourX n fun i => (X i).toNat) n) (rootS n 1 (thirdX n fun i => (X i).toNat) n)).tdiv 12 + (lam f n - if k = 2 ∧ f = 1 then 1 else 0))) := by
  have s2 := rcuspC_sp h
  obtain ⟨hc, n0, n1, k0, k1, hf, hp⟩ := h
  have hb := dimC_bd (f := f) n0 n1 k0 k1 (fun i => (X i).toNat)
  rw [dimC_eq n0 n1] at s2
  obtain ⟨n', hn', ok⟩ := chk_out hc
  obtain rfl : n = n' := by omega
  obtain ⟨f1, f2, f3⟩ := cnd_dvd n0 n1 (fun i => (X i).toNat)
  have s1 := rcnd_sp ok
  rw [hf] at f1 f2 f3 s1
  have b4 := lam_small (f := f) n0 (show n ≤ 120 by omega)
  have s3 := rlam_sp n f n0 (by omega) f2 (by omega) f1
  clear hc hf hp ok
  generalize (dim12 n k f (rootS n 0 (fourX n fun i => (X i).toNat) n) (rootS n 1 (thirdX n fun i => (X i).toNat) n)).tdiv 12 = z at *
  by_cases h2 : k = 2
  · by_cases h3 : f = 1
    · rw [if_pos ⟨h2, h3⟩]
      refine fn_sp (C := CX) [] [] tysX_ok mixed Tryz.func9 rfl (by kernel_rfl) Tryz.ntmps9 rfl rfl ?_
      repeat' ((conv => whnf); first | refine Ob.g ?_ | refine Cases.y ?_ | refine Cases.n ?_ | refine Idx.g rfl ?_ | refine Idx.z rfl ?_ | refine DrawOb.start ?_ | refine TryF.f ?_ | refine TryF.next rfl ?_ | refine TryF.other ?_ | refine TryA.g ?_ | refine TryA.next rfl ?_ | refine TryA.other ?_ | refine TryS.g ?_ | refine TryS.next rfl ?_ | refine TryS.other ?_ | refine TryG.g ?_ | refine TryG.next rfl ?_ | refine Sp.g (s1) ?_ | refine Sp.g (s2) ?_ | refine Sp.g (s3) ?_)
      refine ⟨⟨_, _, rfl, rfl, ?_⟩⟩
      exact AvLe.int (by omega)
    · rw [if_neg (fun h => h3 h.2)]
      refine fn_sp (C := CX) [] [] tysX_ok mixed Tryz.func9 rfl (by kernel_rfl) Tryz.ntmps9 rfl rfl ?_
      repeat' ((conv => whnf); first | refine Ob.g ?_ | refine Cases.y ?_ | refine Cases.n ?_ | refine Idx.g rfl ?_ | refine Idx.z rfl ?_ | refine DrawOb.start ?_ | refine TryF.f ?_ | refine TryF.next rfl ?_ | refine TryF.other ?_ | refine TryA.g ?_ | refine TryA.next rfl ?_ | refine TryA.other ?_ | refine TryS.g ?_ | refine TryS.next rfl ?_ | refine TryS.other ?_ | refine TryG.g ?_ | refine TryG.next rfl ?_ | refine Sp.g (s1) ?_ | refine Sp.g (s2) ?_ | refine Sp.g (s3) ?_)
      refine ⟨⟨_, _, rfl, rfl, ?_⟩⟩
      exact AvLe.int (by omega)
  · rw [if_neg (fun h => h2 h.1)]
    refine fn_sp (C := CX) [] [] tysX_ok mixed Tryz.func9 rfl (by kernel_rfl) Tryz.ntmps9 rfl rfl ?_
    repeat' ((conv => whnf); first | refine Ob.g ?_ | refine Cases.y ?_ | refine Cases.n ?_ | refine Idx.g rfl ?_ | refine Idx.z rfl ?_ | refine DrawOb.start ?_ | refine TryF.f ?_ | refine TryF.next rfl ?_ | refine TryF.other ?_ | refine TryA.g ?_ | refine TryA.next rfl ?_ | refine TryA.other ?_ | refine TryS.g ?_ | refine TryS.next rfl ?_ | refine TryS.other ?_ | refine TryG.g ?_ | refine TryG.next rfl ?_ | refine Sp.g (s1) ?_ | refine Sp.g (s2) ?_ | refine Sp.g (s3) ?_)
    refine ⟨⟨_, _, rfl, rfl, ?_⟩⟩
    exact AvLe.int (by omega)
set_option maxHeartbeats 8000000 in
theorem law_chars (K N : Int) (X : Nat → Int) (l : Nat) : Sp CX 3 [int .i64 K, chA N X l] (bool true) := by
  have s0 := awake_sp
  by_cases hl : 100 < l
  · refine fn_sp (C := CX) [] [] tysX_ok mixed Tryz.func3 rfl (by kernel_rfl) Tryz.ntmps3 rfl rfl ?_
    repeat' ((conv => whnf); first | refine Ob.g ?_ | refine Cases.y ?_ | refine Cases.n ?_ | refine Idx.g rfl ?_ | refine Idx.z rfl ?_ | refine DrawOb.start ?_ | refine TryF.f ?_ | refine TryF.next rfl ?_ | refine TryF.other ?_ | refine TryA.g ?_ | refine TryA.next rfl ?_ | refine TryA.other ?_ | refine TryS.g ?_ | refine TryS.next rfl ?_ | refine TryS.other ?_ | refine TryG.g ?_ | refine TryG.next rfl ?_ | refine Sp.g (s0) ?_)
    refine ⟨⟨_, _, rfl, rfl, ?_⟩⟩
    exact AvLe.refl _
  · have s3 := canC_sp K N X l
    by_cases h : charE K N X l = 0
    · rw [h] at s3
      have hr : ¬ (K < 2 ∨ 24 < K) := fun hr => by
        unfold charE at h
        rw [if_pos hr] at h
        cases h
      have hc : chkE N X l = 0 := Classical.byContradiction fun hc => by
        unfold charE at h
        rw [if_neg hr, if_pos hc] at h
        exact hc h
      have hp : (valR N.toNat (fun i => (X i).toNat) (-1)).2.1 = 0 ↔ K % 2 = 0 := Classical.byContradiction fun hp => by
        unfold charE at h
        rw [if_neg hr, if_neg (fun x => x hc), if_neg hp] at h
        cases h
      obtain ⟨n, rfl, ok⟩ := chk_out hc
      obtain ⟨k, rfl⟩ : ∃ k : Nat, K = k := ⟨K.toNat, by omega⟩
      have co : CrOk n k (cnd n fun i => (X i).toNat) X l := ⟨hc, ok.n0, ok.n1, by omega, by omega, rfl, by rw [Int.toNat_natCast] at hp; rw [hp]; omega⟩
      have hb := dimC_bd (f := cnd n fun i => (X i).toNat) co.n0 co.n1 co.k0 co.k1 (fun i => (X i).toNat)
      have s1 := cuspC_sp co
      have s2 := modC_sp co hb
      have s4 := rcuspC_sp co
      have s5 := rmodC_sp co
      rw [dimC_eq co.n0 co.n1] at s4
      clear co hp hc hr h ok hb
      generalize (dim12 n k (cnd n fun i => (X i).toNat) (rootS n 0 (fourX n fun i => (X i).toNat) n) (rootS n 1 (thirdX n fun i => (X i).toNat) n)).tdiv 12 = z at *
      generalize (lam (cnd n fun i => (X i).toNat) n - if k = 2 ∧ (cnd n fun i => (X i).toNat) = 1 then 1 else 0) = y at *
      refine fn_sp (C := CX) [] [] tysX_ok mixed Tryz.func3 rfl (by kernel_rfl) Tryz.ntmps3 rfl rfl ?_
      repeat' ((conv => whnf); first | refine Ob.g ?_ | refine Cases.y ?_ | refine Cases.n ?_ | refine Idx.g rfl ?_ | refine Idx.z rfl ?_ | refine DrawOb.start ?_ | refine TryF.f ?_ | refine TryF.next rfl ?_ | refine TryF.other ?_ | refine TryA.g ?_ | refine TryA.next rfl ?_ | refine TryA.other ?_ | refine TryS.g ?_ | refine TryS.next rfl ?_ | refine TryS.other ?_ | refine TryG.g ?_ | refine TryG.next rfl ?_ | refine Sp.g (s0) ?_ | refine Sp.g (s1) ?_ | refine Sp.g (s2) ?_ | refine Sp.g (s3) ?_ | refine Sp.g (s4) ?_ | refine Sp.g (s5) ?_)
      refine ⟨⟨_, _, rfl, rfl, ?_⟩⟩
      exact AvLe.bool (decide_eq_true rfl)
    · have s1 := cuspC_bad K N X l h
      have s2 := modC_bad K N X l h
      generalize charE K N X l = e at *
      refine fn_sp (C := CX) [] [] tysX_ok mixed Tryz.func3 rfl (by kernel_rfl) Tryz.ntmps3 rfl rfl ?_
      repeat' ((conv => whnf); first | refine Ob.g ?_ | refine Cases.y ?_ | refine Cases.n ?_ | refine Idx.g rfl ?_ | refine Idx.z rfl ?_ | refine DrawOb.start ?_ | refine TryF.f ?_ | refine TryF.next rfl ?_ | refine TryF.other ?_ | refine TryA.g ?_ | refine TryA.next rfl ?_ | refine TryA.other ?_ | refine TryS.g ?_ | refine TryS.next rfl ?_ | refine TryS.other ?_ | refine TryG.g ?_ | refine TryG.next rfl ?_ | refine Sp.g (s0) ?_ | refine Sp.g (s1) ?_ | refine Sp.g (s2) ?_ | refine Sp.g (s3) ?_)
      refine ⟨⟨_, _, rfl, rfl, ?_⟩⟩
      exact AvLe.bool (by first | rfl | exact decide_eq_true rfl)
end Go.Proofs.YtedfcemebdlgfaaGreatDoor

