/- The quadratic character at any level: what the kernel reckons. -/
import Derived.Test.YtagigjppbabpkaaDoorPkDiLa
import Derived.Test.YtagigjppbabpkaaDoorPkDmH
namespace Go.Proofs.YtagigjppbabpkaaDoor
open Go Go.RowKit Go.VG HP
def xWC (d : Int) (n i : Nat) : Nat := bif decide (jacC2 d (genT n (prtAt n i)) < 0) then (prtAt n i).o / 2 else 0
def fourX (n : Nat) (E : Nat → Nat) (a : Nat) : Int := if (valR n E (a : Int)).2.1 = 0 then 1 else -1
def thirdX (n : Nat) (E : Nat → Nat) (a : Nat) : Int := if (valR n E (a : Int)).2.1 = 0 then 2 else -1
def xChk (d : Int) (n : Nat) : Bool :=
  (List.range (np n)).all (fun i => Nat.blt (xWC d n i) (prtAt n i).o && Nat.beq (exW d.natAbs (qWC d) n (fun i => genT n (prtAt n i)) i) (xWC d n i)) &&
  Nat.beq (cnd n (xWC d n)) d.natAbs && (Nat.beq (valR n (xWC d n) (-1)).2.1 0 == decide (0 < d)) &&
  allB n (fun a => !Nat.beq ((a * a + 0 * a + 1) % n) 0 || decide (fourX n (xWC d n) a = jacC2 d (a + n))) &&
  allB n (fun a => !Nat.beq ((a * a + 1 * a + 1) % n) 0 || decide (thirdX n (xWC d n) a = 2 * jacC2 d (a + n)))
theorem x_chk : allB 121 (fun k => let d : Int := (k : Int) - 60
    decide (d = 0) || !(decide (d = 1) || fundB d) || (decide ((HP.fundC d).2.2 = 0 ∧ (HP.fundC d).2.1 = 1) && allB 61 (fun n => Nat.beq n 0 || !Nat.beq (n % d.natAbs) 0 || xChk d n))) = true := by decide +kernel
theorem rootS_congr {n c : Nat} {g h : Nat → Int} : ∀ m : Nat, (∀ a, a < m → (a * a + c * a + 1) % n = 0 → g a = h a) → rootS n c g m = rootS n c h m
  | 0, _ => rfl
  | m + 1, H => by
    rw [rootS, rootS, rootS_congr m fun a ha => H a (by omega)]
    by_cases hz : (m * m + c * m + 1) % n = 0
    · rw [if_pos hz, if_pos hz, H m (by omega) hz]
    · rw [if_neg hz, if_neg hz]
structure XOk (d : Int) (n : Nat) (E : Nat → Nat) : Prop where
  qu : quE d = 0
  ex : exE (d.natAbs : Nat) (quW d) (np d.natAbs) n = 0
  chk : chkE n (extW (d.natAbs : Nat) (quW d) n) (np n) = 0
  cnd : cnd n E = d.natAbs
  even : ((valR n E (-1)).2.1 = 0) ↔ 0 < d
  four : rootS n 0 (fourX n E) n = rootR n 0 (fun a => jac d a) n
  third : rootS n 1 (thirdX n E) n = rootR n 1 (fun a => 2 * jac d a) n
theorem x_ok {n k : Nat} {d : Int} (h : DOk n k d) (hn : n ≤ 60) : XOk d n (fun i => (extW (d.natAbs : Nat) (quW d) n i).toNat) := by
  obtain ⟨n0, n1, k0, k1, d0, d1, dz, d4, f, dv, par, bg⟩ := h
  have hle : d.natAbs ≤ n := Nat.le_of_dvd (by omega) dv
  have hc := allB_at x_chk (show (d + 60).toNat < 121 by omega)
  have e : (((d + 60).toNat : Nat) : Int) - 60 = d := by omega
  have f' : (decide (d = 1) || fundB d) = true := by
    rcases f with h | h
    · rw [decide_eq_true h]; rfl
    · rw [h, Bool.or_true]
  simp only [e, f', decide_eq_false dz, Bool.not_true, Bool.false_or, Bool.and_eq_true, decide_eq_true_eq] at hc
  obtain ⟨⟨c1, c2⟩, c3⟩ := hc
  have hx := allB_at c3 (show n < 61 by omega)
  have z : Nat.beq (n % d.natAbs) 0 = true := by rw [Nat.mod_eq_zero_of_dvd dv]; rfl
  have z0 : Nat.beq n 0 = false := nbeq_ff (by omega)
  rw [z, z0] at hx
  change xChk d n = true at hx
  unfold xChk at hx
  simp only [Bool.and_eq_true, beq_iff_eq] at hx
  obtain ⟨⟨⟨⟨a1, a2⟩, a3⟩, a4⟩, a5⟩ := hx
  have hq : quE d = 0 := by
    unfold quE
    rw [if_neg (by omega), fundC_eq (by omega) (by omega), if_neg (fun h => h.elim (fun x => x c1) fun x => x c2)]
  have hQ : ∀ i, i < np d.natAbs → (quW d i).toNat = qWC d i := fun i hi => by rw [quW_C dz (by omega) (by omega) hi, Int.toNat_natCast]
  have hW : ∀ i, i < np n → extW (d.natAbs : Nat) (quW d) n i = (xWC d n i : Int) ∧ xWC d n i < (prtAt n i).o := fun i hi => by
    have hb := List.all_eq_true.1 a1 i (List.mem_range.2 hi)
    rw [Bool.and_eq_true, Nat.blt_eq] at hb
    refine ⟨?_, hb.1⟩
    rw [← Nat.eq_of_beq_eq_true hb.2]
    unfold extW exW
    rw [Int.toNat_natCast, valR_congr hQ]
  have hE : ∀ i, i < np n → (extW (d.natAbs : Nat) (quW d) n i).toNat = xWC d n i := fun i hi => by rw [(hW i hi).1, Int.toNat_natCast]
  have hv := fun a => valR_congr hE a
  refine ⟨hq, ?_, chk_mk n0 hn hW, ?_, ?_, ?_, ?_⟩
  · have hz : ((n : Nat) : Int).tmod (d.natAbs : Nat) = 0 := by rw [← Int.ofNat_tmod, Nat.mod_eq_zero_of_dvd dv]; rfl
    unfold exE
    rw [if_neg (fun h => h (qu_ok hq).chk), if_neg (by omega), if_neg (fun h => h hz)]
  · rw [cnd_congr hE]; exact Nat.eq_of_beq_eq_true a2
  · rw [hv]
    constructor
    · intro hz
      rw [hz] at a3
      exact of_decide_eq_true a3.symm
    · intro hp
      rw [decide_eq_true hp] at a3
      exact Nat.eq_of_beq_eq_true a3
  · rw [← four_eq dz d4 dv n0]
    refine rootS_congr n fun a ha hz => ?_
    have hb := allB_at a4 ha
    rw [hz] at hb
    have hb2 : fourX n (xWC d n) a = jacC2 d (a + n) := of_decide_eq_true hb
    unfold fourX at hb2 ⊢
    rw [hv, hb2, ← jac_C2 (by omega) (by omega), ← Int.natCast_add, kro_pos (by omega), Int.toNat_natCast]
  · rw [← three_eq dz d4 dv n0]
    refine rootS_congr n fun a ha hz => ?_
    have hb := allB_at a5 ha
    rw [hz] at hb
    have hb2 : thirdX n (xWC d n) a = 2 * jacC2 d (a + n) := of_decide_eq_true hb
    unfold thirdX at hb2 ⊢
    rw [hv, hb2, ← jac_C2 (by omega) (by omega), ← Int.natCast_add, kro_pos (by omega), Int.toNat_natCast]
end Go.Proofs.YtagigjppbabpkaaDoor
