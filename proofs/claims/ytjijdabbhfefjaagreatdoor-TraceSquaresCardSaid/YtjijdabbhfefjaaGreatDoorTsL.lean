/- The kernel's reckoning: squares of primes in spaces of dimension 1. -/
import Derived.Test.YtjijdabbhfefjaaGreatDoorPkTrF
namespace Go.Proofs.YtjijdabbhfefjaaGreatDoor
open HP
noncomputable def allP (f : Nat → Nat → Bool) (l : List (Nat × Nat)) : Bool := List.rec true (fun x _ r => @Bool.rec (fun _ => Bool) false r (f x.1 x.2)) l
theorem allP_at {f : Nat → Nat → Bool} : ∀ {l : List (Nat × Nat)}, allP f l = true → ∀ x y, (x, y) ∈ l → f x y = true
  | [], _, _, _, hx => absurd hx (List.not_mem_nil)
  | z :: l, h, x, y, hx => by
    have h : @Bool.rec (fun _ => Bool) false (allP f l) (f z.1 z.2) = true := h
    cases hy : f z.1 z.2 with
    | false => rw [hy] at h; cases h
    | true =>
      rw [hy] at h
      rcases List.mem_cons.1 hx with hx | hx
      · rw [← hx] at hy; exact hy
      · exact allP_at h x y hx
def sqL : List (Nat × Nat) := [(2, 4), (3, 9), (5, 25), (7, 49), (11, 121)]
noncomputable def sqS (N k : Nat) (Δ : Int) : Bool := allP (fun p n => !(Nat.beq (Nat.gcd p N) 1) || decide (T12Q N k Δ p % 12 = 0 ∧ T12Q N k Δ n % 12 = 0 ∧ 12 * T12Q N k Δ n = T12Q N k Δ p * T12Q N k Δ p - 144 * ((p : Int) ^ (k - 1) * jacQ Δ p))) sqL
noncomputable def sqrB (N : Nat) (Δ : Int) : Bool := allL (fun k => !(decide (cuspC N k Δ = 1)) || sqS N k Δ) (ksQ N Δ)
theorem sq_chk : pairR 1 121 sqrB = true := by decide +kernel
theorem sq_fact {N k p n : Nat} {Δ : Int} (ok : DOk N k Δ) (c : cuspV N k Δ = 1) (hm : (p, n) ∈ sqL) (hp : Nat.gcd p N = 1) (hn : Nat.gcd n N = 1) (p1 : 1 ≤ p) (p2 : p ≤ 11) (n1 : 1 ≤ n) (n2 : n ≤ 128) : (12 : Int) ∣ T12 N k Δ p ∧ (12 : Int) ∣ T12 N k Δ n ∧ 12 * T12 N k Δ n = T12 N k Δ p * T12 N k Δ p - 144 * ((p : Int) ^ (k - 1) * jac Δ p) := by
  have a := allL_at (f := fun k => !(decide (cuspC N k Δ = 1)) || sqS N k Δ) (pairR_at sq_chk ok ok.n0 (by have := ok.n1; omega)) k (ksQ_mem ok)
  rw [cusp_C ok.n0 ok.n1 ok.dz] at c
  rw [decide_eq_true c] at a
  have b := allP_at (f := fun p n => !(Nat.beq (Nat.gcd p N) 1) || decide (T12Q N k Δ p % 12 = 0 ∧ T12Q N k Δ n % 12 = 0 ∧ 12 * T12Q N k Δ n = T12Q N k Δ p * T12Q N k Δ p - 144 * ((p : Int) ^ (k - 1) * jacQ Δ p))) (l := sqL) a p n hm
  rw [beq_t hp] at b
  obtain ⟨b1, b2, b3⟩ := of_decide_eq_true (p := T12Q N k Δ p % 12 = 0 ∧ T12Q N k Δ n % 12 = 0 ∧ 12 * T12Q N k Δ n = T12Q N k Δ p * T12Q N k Δ p - 144 * ((p : Int) ^ (k - 1) * jacQ Δ p)) b
  rw [T12Q_ok ok p1 (by omega) hp] at b1 b3
  rw [T12Q_ok ok n1 n2 hn] at b2 b3
  rw [jacQ_eq ok.d0 ok.d1 ok.f p1 (by omega), ← jac_K p1 (by omega)] at b3
  exact ⟨Int.dvd_of_emod_eq_zero b1, Int.dvd_of_emod_eq_zero b2, b3⟩
end Go.Proofs.YtjijdabbhfefjaaGreatDoor
