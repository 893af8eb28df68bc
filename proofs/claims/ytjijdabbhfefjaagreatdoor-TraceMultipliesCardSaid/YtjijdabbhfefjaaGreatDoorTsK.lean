/- The kernel's reckoning: products of traces in spaces of dimension 1. -/
import Derived.Test.YtjijdabbhfefjaaGreatDoorPkTrF
namespace Go.Proofs.YtjijdabbhfefjaaGreatDoor
open HP
def mulL : List (Nat × Nat × Nat) := [(1, 1, 1), (1, 2, 2), (1, 3, 3), (1, 4, 4), (1, 5, 5), (1, 6, 6), (1, 7, 7), (1, 8, 8), (1, 9, 9), (1, 10, 10), (1, 11, 11), (2, 1, 2), (2, 3, 6), (2, 5, 10), (2, 7, 14), (2, 9, 18), (2, 11, 22), (3, 1, 3), (3, 2, 6), (3, 4, 12), (3, 5, 15), (3, 7, 21), (3, 8, 24), (3, 10, 30), (3, 11, 33), (4, 1, 4), (4, 3, 12), (4, 5, 20), (4, 7, 28), (4, 9, 36), (4, 11, 44), (5, 1, 5), (5, 2, 10), (5, 3, 15), (5, 4, 20), (5, 6, 30), (5, 7, 35), (5, 8, 40), (5, 9, 45), (5, 11, 55), (6, 1, 6), (6, 5, 30), (6, 7, 42), (6, 11, 66), (7, 1, 7), (7, 2, 14), (7, 3, 21), (7, 4, 28), (7, 5, 35), (7, 6, 42), (7, 8, 56), (7, 9, 63), (7, 10, 70), (7, 11, 77), (8, 1, 8), (8, 3, 24), (8, 5, 40), (8, 7, 56), (8, 9, 72), (8, 11, 88), (9, 1, 9), (9, 2, 18), (9, 4, 36), (9, 5, 45), (9, 7, 63), (9, 8, 72), (9, 10, 90), (9, 11, 99), (10, 1, 10), (10, 3, 30), (10, 7, 70), (10, 9, 90), (10, 11, 110), (11, 1, 11), (11, 2, 22), (11, 3, 33), (11, 4, 44), (11, 5, 55), (11, 6, 66), (11, 7, 77), (11, 8, 88), (11, 9, 99), (11, 10, 110)]
theorem mulL_mem : allB 12 (fun x => Nat.beq x 0 || allB 12 fun y => Nat.beq y 0 || (!(Nat.beq (Nat.gcd x y) 1) || mulL.contains (x, y, x * y))) = true := by decide +kernel
noncomputable def allT (f : Nat → Nat → Nat → Bool) (l : List (Nat × Nat × Nat)) : Bool := List.rec true (fun x _ r => @Bool.rec (fun _ => Bool) false r (f x.1 x.2.1 x.2.2)) l
theorem allT_at {f : Nat → Nat → Nat → Bool} : ∀ {l : List (Nat × Nat × Nat)}, allT f l = true → ∀ x y n, (x, y, n) ∈ l → f x y n = true
  | [], _, _, _, _, hx => absurd hx (List.not_mem_nil)
  | z :: l, h, x, y, n, hx => by
    have h : @Bool.rec (fun _ => Bool) false (allT f l) (f z.1 z.2.1 z.2.2) = true := h
    cases hy : f z.1 z.2.1 z.2.2 with
    | false => rw [hy] at h; cases h
    | true =>
      rw [hy] at h
      rcases List.mem_cons.1 hx with hx | hx
      · rw [← hx] at hy; exact hy
      · exact allT_at h x y n hx
theorem mul_mem {x y : Nat} (x1 : 1 ≤ x) (x2 : x ≤ 11) (y1 : 1 ≤ y) (y2 : y ≤ 11) (h : Nat.gcd x y = 1) : (x, y, x * y) ∈ mulL := by
  have a := allB_at mulL_mem (show x < 12 by omega)
  rw [beq_f (show x ≠ 0 by omega), Bool.false_or] at a
  have b := allB_at a (show y < 12 by omega)
  rw [beq_f (show y ≠ 0 by omega), beq_t h] at b
  exact List.contains_iff_mem.1 b
noncomputable def mulS (N k : Nat) (Δ : Int) : Bool := allT (fun x y n => !(Nat.beq (Nat.gcd x N) 1) || (!(Nat.beq (Nat.gcd y N) 1) || decide (T12Q N k Δ n % 12 = 0 ∧ 12 * T12Q N k Δ n = T12Q N k Δ x * T12Q N k Δ y))) mulL
noncomputable def mulB (N : Nat) (Δ : Int) : Bool := allL (fun k => !(decide (cuspC N k Δ = 1)) || mulS N k Δ) (ksQ N Δ)
theorem mul_chk : pairR 1 121 mulB = true := by decide +kernel
theorem gcd_mulN {x y N : Nat} (hx : Nat.gcd x N = 1) (hy : Nat.gcd y N = 1) : Nat.gcd (x * y) N = 1 := Nat.Coprime.mul_left hx hy
theorem mul_fact {N k x y : Nat} {Δ : Int} (ok : DOk N k Δ) (c : cuspV N k Δ = 1) (x1 : 1 ≤ x) (x2 : x ≤ 11) (y1 : 1 ≤ y) (y2 : y ≤ 11) (h : Nat.gcd x y = 1) (hx : Nat.gcd x N = 1) (hy : Nat.gcd y N = 1) : (12 : Int) ∣ T12 N k Δ (x * y) ∧ 12 * T12 N k Δ (x * y) = T12 N k Δ x * T12 N k Δ y := by
  have a := allL_at (f := fun k => !(decide (cuspC N k Δ = 1)) || mulS N k Δ) (pairR_at mul_chk ok ok.n0 (by have := ok.n1; omega)) k (ksQ_mem ok)
  rw [cusp_C ok.n0 ok.n1 ok.dz] at c
  rw [decide_eq_true c] at a
  have b := allT_at (f := fun x y n => !(Nat.beq (Nat.gcd x N) 1) || (!(Nat.beq (Nat.gcd y N) 1) || decide (T12Q N k Δ n % 12 = 0 ∧ 12 * T12Q N k Δ n = T12Q N k Δ x * T12Q N k Δ y))) (l := mulL) a x y (x * y) (mul_mem x1 x2 y1 y2 h)
  rw [beq_t hx, beq_t hy] at b
  obtain ⟨b1, b2⟩ := of_decide_eq_true (p := T12Q N k Δ (x * y) % 12 = 0 ∧ 12 * T12Q N k Δ (x * y) = T12Q N k Δ x * T12Q N k Δ y) b
  have pb : x * y ≤ 11 * 11 := Nat.mul_le_mul x2 y2
  have pp : 1 ≤ x * y := Nat.mul_pos (by omega) (by omega)
  rw [T12Q_ok ok pp (by omega) (gcd_mulN hx hy)] at b1 b2
  rw [T12Q_ok ok x1 (by omega) hx, T12Q_ok ok y1 (by omega) hy] at b2
  exact ⟨Int.dvd_of_emod_eq_zero b1, b2⟩
end Go.Proofs.YtjijdabbhfefjaaGreatDoor
