/- Own texts joined: TrF, TrL. -/
import Derived.Test.YtjijdabbhfefjaaGreatDoorPkTrA
import Derived.Test.YtjijdabbhfefjaaGreatDoorPkDmK
import Derived.Test.YtjijdabbhfefjaaGreatDoorPkTrJ
/- The trace formula: what the kernel reckons for all spaces. -/
namespace Go.Proofs.YtjijdabbhfefjaaGreatDoor
open HP
def pairB (chk : Nat → Int → Bool) : Bool := allB 121 fun N => Nat.beq N 0 || allB 241 fun j =>
  Nat.beq j 120 || !(Nat.beq (N % ((j : Int) - 120).natAbs) 0) || !(decide ((j : Int) - 120 = 1) || fundB ((j : Int) - 120)) || chk N ((j : Int) - 120)
theorem pair_at {chk : Nat → Int → Bool} (h : pairB chk = true) {N k : Nat} {Δ : Int} (ok : DOk N k Δ) : chk N Δ = true := by
  obtain ⟨n0, n1, k0, k1, d0, d1, dz, d4, f, dv, par, bg⟩ := ok
  have h1 := allB_at h (show N < 121 by omega)
  rw [beq_f (show N ≠ 0 by omega), Bool.false_or] at h1
  have h2 := allB_at h1 (show (Δ + 120).toNat < 241 by omega)
  have e : (((Δ + 120).toNat : Nat) : Int) - 120 = Δ := by omega
  have f' : (decide (Δ = 1) || fundB Δ) = true := by
    rcases f with h | h
    · rw [decide_eq_true h]; rfl
    · rw [h, Bool.or_true]
  rw [e, beq_f (show (Δ + 120).toNat ≠ 120 by omega), beq_t (Nat.mod_eq_zero_of_dvd dv), f'] at h2
  simpa using h2
def kAll (N : Nat) (Δ : Int) (chk : Nat → Bool) : Bool :=
  let P := prodC psiF N
  allB 25 fun k => Nat.blt k 2 || !(Nat.beq (k % 2) 1 == decide (Δ < 0)) || !decide (P * ((k : Int) - 1) ≤ 512) || chk k
theorem kAll_at {N : Nat} {Δ : Int} {chk : Nat → Bool} (h : kAll N Δ chk = true) {k : Nat} (ok : DOk N k Δ) : chk k = true := by
  obtain ⟨n0, n1, k0, k1, d0, d1, dz, d4, f, dv, par, bg⟩ := ok
  have h1 := allB_at h (show k < 25 by omega)
  rw [psi_C n0 n1] at bg
  have e1 : Nat.blt k 2 = false := by
    rw [Bool.eq_false_iff]
    intro x
    have := Nat.blt_eq.mp x
    omega
  have e2 : (Nat.beq (k % 2) 1 == decide (Δ < 0)) = true := by
    by_cases hd : Δ < 0
    · rw [decide_eq_true hd, beq_t (par.1 hd)]; rfl
    · rw [decide_eq_false hd, beq_f fun x => hd (par.2 x)]; rfl
  rw [e1, e2, decide_eq_true bg] at h1
  simpa using h1
def atN (N : Nat) (Δ : Int) (n : Nat) (tab : List (Int × List (Nat × Nat))) (chk : Nat → Int → Bool) : Bool :=
  let A := tabA N (chiR N Δ N) n tab
  let H := tabH N Δ n (dvs N) (dvs n)
  kAll N Δ fun k => chk k (totP N k Δ n A H)
theorem atN_at {N n : Nat} {Δ : Int} {chk : Nat → Int → Bool} (h : atN N Δ n (tabT n (2 * n + 3)) chk = true) {k : Nat} (ok : DOk N k Δ) (hn : Nat.gcd n N = 1) (n1 : 1 ≤ n) (n2 : n ≤ 128) : chk k (T12 N k Δ n) = true := by
  have h1 := kAll_at h ok
  rwa [← T12_P ok.n0 ok.n1 ok.dz ok.d4 ok.dvd hn n1 n2] at h1
def dimB (N : Nat) (Δ : Int) : Bool :=
  let P := prodC psiF N
  let L := prodC (lamG Δ.natAbs) N
  let x := fourC N Δ
  let y := threeC N Δ
  atN N Δ 1 (tabT 1 5) fun k z => decide (z = 12 * (dimT k Δ.natAbs P L x y).tdiv 12)
end Go.Proofs.YtjijdabbhfefjaaGreatDoor

/- The trace formula: what is looked at for all spaces. -/
namespace Go.Proofs.YtjijdabbhfefjaaGreatDoor
open HP
noncomputable def allL (f : Nat → Bool) (l : List Nat) : Bool := List.rec true (fun x _ r => @Bool.rec (fun _ => Bool) false r (f x)) l
theorem allL_at {f : Nat → Bool} : ∀ {l : List Nat}, allL f l = true → ∀ x ∈ l, f x = true
  | [], _, _, hx => absurd hx (List.not_mem_nil)
  | y :: l, h, x, hx => by
    have h : @Bool.rec (fun _ => Bool) false (allL f l) (f y) = true := h
    cases hy : f y with
    | false => rw [hy] at h; cases h
    | true =>
      rw [hy] at h
      rcases List.mem_cons.1 hx with rfl | hx
      · exact hy
      · exact allL_at h x hx
def ksQ (N : Nat) (Δ : Int) : List Nat := (List.range 25).filter fun k => Nat.ble 2 k && ((Nat.beq (k % 2) 1 == decide (Δ < 0)) && decide (prodC psiF N * ((k : Int) - 1) ≤ 512))
theorem ksQ_mem {N k : Nat} {Δ : Int} (ok : DOk N k Δ) : k ∈ ksQ N Δ := by
  obtain ⟨n0, n1, k0, k1, d0, d1, dz, d4, f, dv, par, bg⟩ := ok
  rw [psi_C n0 n1] at bg
  unfold ksQ
  rw [List.mem_filter]
  refine ⟨List.mem_range.2 (by omega), ?_⟩
  have e2 : (Nat.beq (k % 2) 1 == decide (Δ < 0)) = true := by
    by_cases hd : Δ < 0
    · rw [decide_eq_true hd, beq_t (par.1 hd)]; rfl
    · rw [decide_eq_false hd, beq_f fun x => hd (par.2 x)]; rfl
  rw [Nat.ble_eq_true_of_le k0, e2, decide_eq_true bg]
  rfl
def pairR (lo hi : Nat) (chk : Nat → Int → Bool) : Bool := allB 121 fun N => Nat.blt N lo || (Nat.ble hi N || (Nat.beq N 0 ||
  ((allB 121 fun j => Nat.beq j 0 || (!(Nat.beq (N % j) 0) || (!(Nat.beq j 1 || fundB (Int.ofNat j)) || chk N (Int.ofNat j)))) &&
   (allB 120 fun j => !(Nat.beq (N % (j + 1)) 0) || (!(fundB (Int.negSucc j)) || chk N (Int.negSucc j))))))
theorem pairR_at {lo hi : Nat} {chk : Nat → Int → Bool} (h : pairR lo hi chk = true) {N k : Nat} {Δ : Int} (ok : DOk N k Δ) (h1 : lo ≤ N) (h2 : N < hi) : chk N Δ = true := by
  obtain ⟨n0, n1, k0, k1, d0, d1, dz, d4, f, dv, par, bg⟩ := ok
  have h := allB_at h (show N < 121 by omega)
  have b2 : Nat.ble hi N = false := by
    rw [Bool.eq_false_iff]
    intro x
    have := Nat.le_of_ble_eq_true x
    omega
  rw [blt_f (show ¬ N < lo by omega), b2, beq_f (show N ≠ 0 by omega), Bool.false_or, Bool.false_or, Bool.false_or, Bool.and_eq_true] at h
  have hm := Nat.mod_eq_zero_of_dvd dv
  match Δ, hm, f, d0, d1, dz with
  | Int.ofNat j, hm, f, d0, d1, dz =>
    have h := allB_at h.1 (show j < 121 by have : ((j : Nat) : Int) ≤ 120 := d1; omega)
    have hm : N % j = 0 := hm
    have j0 : j ≠ 0 := fun e => dz (by rw [e]; rfl)
    have f' : (Nat.beq j 1 || fundB (Int.ofNat j)) = true := by
      rcases f with e | e
      · have e : ((j : Nat) : Int) = 1 := e
        rw [beq_t (show j = 1 by omega)]; rfl
      · rw [e, Bool.or_true]
    rw [beq_f j0, beq_t hm, f'] at h
    exact h
  | Int.negSucc j, hm, f, d0, d1, dz =>
    have h := allB_at h.2 (show j < 120 by have : -120 ≤ Int.negSucc j := d0; omega)
    have hm : N % (j + 1) = 0 := hm
    have f' : fundB (Int.negSucc j) = true := by
      rcases f with e | e
      · cases e
      · exact e
    rw [beq_t hm, f'] at h
    exact h
noncomputable def totB (N : Nat) (Δ : Int) : Bool := allB 129 fun n => Nat.beq n 0 || (!(Nat.beq (Nat.gcd n N) 1) || allL (fun k => decide (intQ N k Δ n % 12 = 0)) (ksQ N Δ))
theorem totB_at {N k n : Nat} {Δ : Int} (h : totB N Δ = true) (ok : DOk N k Δ) (n1 : 1 ≤ n) (n2 : n ≤ 128) (hn : Nat.gcd n N = 1) : (12 : Int) ∣ T12 N k Δ n := by
  have hk := ksQ_mem ok
  obtain ⟨N0, N1, k0, k1, d0, d1, dz, d4, f, dv, par, bg⟩ := ok
  have h := allB_at h (show n < 129 by omega)
  rw [beq_f (show n ≠ 0 by omega), beq_t hn] at h
  have h := of_decide_eq_true (allL_at (f := fun k => decide (intQ N k Δ n % 12 = 0)) h k hk)
  exact intQ_eq (fun a a1 a2 => jacQ_eq d0 d1 f a1 a2) N0 N1 dz d4 dv d0 d1 k0 par hn n1 n2 h
theorem T12Q_ok {N k n : Nat} {Δ : Int} (ok : DOk N k Δ) (n1 : 1 ≤ n) (n2 : n ≤ 128) (hn : Nat.gcd n N = 1) : T12Q N k Δ n = T12 N k Δ n := by
  obtain ⟨N0, N1, k0, k1, d0, d1, dz, d4, f, dv, par, bg⟩ := ok
  exact T12Q_eq (fun a a1 a2 => jacQ_eq d0 d1 f a1 a2) N0 N1 dz d4 dv d0 d1 k0 par hn n1 n2
noncomputable def bndP (N k : Nat) (Δ : Int) (c : Int) (p : Nat) : Bool := decide (T12Q N k Δ p % 12 = 0 ∧ T12Q N k Δ p * T12Q N k Δ p ≤ 576 * (c * c) * (p : Int) ^ (k - 1))
noncomputable def bndB (N : Nat) (Δ : Int) : Bool := allL (fun k => allL (fun p => Nat.beq (N % p) 0 || bndP N k Δ (cuspC N k Δ) p) [2, 3, 5, 7, 11, 13, 17, 19, 23, 29]) (ksQ N Δ)
end Go.Proofs.YtjijdabbhfefjaaGreatDoor

