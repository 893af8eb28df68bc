/- Own texts joined: SlB, LwA. -/
import Derived.Test.YthfnbpnplbbibaaPkRfA
import Derived.Test.YthfnbpnplbbibaaPkNumS
import Derived.Test.YthfnbpnplbbibaaRfC
/- Words in S and T in letters: nearest, Factor, Abelian. -/
namespace HP
def nrZ (a : Int) (k : Nat) : Int := if (k : Int) < 2 * (a % k) then a % k - k else a % k
def nqZ (a c : Int) : Int := (a - nrZ a c.natAbs).tdiv c
theorem near_spec {a c : Int} (hc : c ≠ 0) : a = nqZ a c * c + nrZ a c.natAbs ∧ 2 * (nrZ a c.natAbs).natAbs ≤ c.natAbs := by
  have hk : (0 : Int) < c.natAbs := by omega
  have h1 := Int.emod_nonneg a (show (c.natAbs : Int) ≠ 0 by omega)
  have h2 := Int.emod_lt_of_pos a hk
  have hd : c ∣ a - nrZ a c.natAbs := by
    have hd1 : (c.natAbs : Int) ∣ a - a % (c.natAbs : Int) := ⟨a / (c.natAbs : Int), by have := Int.mul_ediv_add_emod a (c.natAbs : Int); omega⟩
    have hck : c ∣ (c.natAbs : Int) := Int.dvd_natAbs.2 (Int.dvd_refl c)
    unfold nrZ
    split
    · have e : a - (a % (c.natAbs : Int) - (c.natAbs : Int)) = (a - a % (c.natAbs : Int)) + (c.natAbs : Int) := by omega
      rw [e]
      exact Int.dvd_add (Int.dvd_trans hck hd1) hck
    · exact Int.dvd_trans hck hd1
  constructor
  · unfold nqZ
    rw [Int.tdiv_mul_cancel hd]
    omega
  · unfold nrZ
    split <;> omega
def stepM (m : Mx) : Mx := ⟨m.c, m.d, -(nrZ m.a m.c.natAbs), nqZ m.a m.c * m.d - m.b⟩
def itM (m : Mx) : Nat → Mx
  | 0 => m
  | n + 1 => stepM (itM m n)
def expM (m : Mx) (i : Nat) : Int := nqZ (itM m i).a (itM m i).c
def expL (m : Mx) : Nat → List Int
  | 0 => []
  | n + 1 => expL m n ++ [expM m n]
theorem expL_len (m : Mx) : ∀ n, (expL m n).length = n
  | 0 => rfl
  | n + 1 => by rw [expL, List.length_append, expL_len m n]; rfl
/-- the sizes of what is left -/
structure FacI (M : Mx) (n : Nat) : Prop where
  w : WordI M (itM M n) (expL M n)
  a : (itM M n).a.natAbs ≤ 1073741824
  b : (itM M n).b.natAbs ≤ 1073741824
  c : (itM M n).c.natAbs * 2 ^ n ≤ 1073741824
  d : (itM M n).d.natAbs ≤ 1073741824
theorem FacI.c' {M : Mx} {n : Nat} (h : FacI M n) : (itM M n).c.natAbs ≤ 1073741824 := by
  have := h.c
  have h2 : (itM M n).c.natAbs * 1 ≤ (itM M n).c.natAbs * 2 ^ n := Nat.mul_le_mul_left _ (Nat.pow_pos (by omega))
  omega
theorem FacI.small {M : Mx} {n : Nat} (h : FacI M n) (hc : (itM M n).c ≠ 0) : n ≤ 30 := by
  apply Nat.le_of_not_lt
  intro hn
  have h1 : 1 * 2 ^ 31 ≤ (itM M n).c.natAbs * 2 ^ n := Nat.mul_le_mul (by omega) (Nat.pow_le_pow_right (by omega) (by omega))
  have h2 : (2 : Nat) ^ 31 = 2147483648 := rfl
  have := h.c
  omega
theorem FacI.step {M : Mx} {n : Nat} (h : FacI M n) (hc : (itM M n).c ≠ 0) : FacI M (n + 1) ∧ (itM M (n + 1)).c.natAbs < (itM M n).c.natAbs ∧ (expM M n).natAbs ≤ 1073741825 := by
  obtain ⟨n1, n2⟩ := near_spec (a := (itM M n).a) hc
  obtain ⟨b1, b2⟩ := word_bd h.w.one hc n1 n2 (B := 1073741824) (by omega) h.d
  have ha := h.a
  have hcc := h.c
  refine ⟨⟨h.w.step n1, h.c', h.d, ?_, b1⟩, ?_, ?_⟩
  · show (-(nrZ (itM M n).a (itM M n).c.natAbs)).natAbs * 2 ^ (n + 1) ≤ _
    rw [Int.natAbs_neg, Nat.pow_succ, Nat.mul_comm (2 ^ n) 2, ← Nat.mul_assoc]
    have : (nrZ (itM M n).a (itM M n).c.natAbs).natAbs * 2 * 2 ^ n ≤ (itM M n).c.natAbs * 2 ^ n := Nat.mul_le_mul_right _ (by omega)
    omega
  · show (-(nrZ (itM M n).a (itM M n).c.natAbs)).natAbs < _
    omega
  · show (nqZ (itM M n).a (itM M n).c).natAbs ≤ _
    omega
/-- the number of steps -/
theorem fac_end {M : Mx} : ∀ (k n : Nat), (itM M n).c.natAbs ≤ k → FacI M n → (∀ i, i < n → (itM M i).c ≠ 0) → ∃ N, (∀ i, i < N → (itM M i).c ≠ 0) ∧ (itM M N).c = 0 ∧ FacI M N
  | k, n, hk, h, hi => by
    by_cases hc : (itM M n).c = 0
    · exact ⟨n, hi, hc, h⟩
    · obtain ⟨s1, s2, _⟩ := h.step hc
      match k with
      | 0 => omega
      | k + 1 =>
        refine fac_end k (n + 1) (by omega) s1 fun i hh => ?_
        by_cases e : i = n
        · rw [e]; exact hc
        · exact hi i (by omega)
theorem wfac_all {M : Mx} {N : Nat} (h0 : FacI M 0) (hN : ∀ i, i < N → (itM M i).c ≠ 0) : ∀ n, n ≤ N → FacI M n
  | 0, _ => h0
  | n + 1, hn => ((wfac_all h0 hN n (by omega)).step (hN n (by omega))).1
/-- the word's exponents -/
def wrdY (M : Mx) (N i : Nat) : Int := if i < N then expM M i else (itM M N).a * (itM M N).b
def sumT (Y : Nat → Int) : Nat → Int
  | 0 => 0
  | i + 1 => sumT Y i + (Y i).tmod 12
theorem sumT_bd (Y : Nat → Int) : ∀ i : Nat, -(12 * i : Int) ≤ sumT Y i ∧ sumT Y i ≤ 12 * i
  | 0 => by show -(12 * ((0 : Nat) : Int)) ≤ 0 ∧ (0 : Int) ≤ 12 * ((0 : Nat) : Int); omega
  | i + 1 => by
    have ih := sumT_bd Y i
    have t := tmod_emodP (Y i) 12 (by omega)
    show _ ≤ sumT Y i + (Y i).tmod 12 ∧ sumT Y i + (Y i).tmod 12 ≤ _
    omega
theorem sumT_exp {M : Mx} {N : Nat} : ∀ i, i ≤ N → (12 : Int) ∣ sumT (wrdY M N) i - sumL (expL M i)
  | 0, _ => ⟨0, rfl⟩
  | i + 1, hi => by
    obtain ⟨x, ih⟩ := sumT_exp (M := M) (N := N) i (by omega)
    obtain ⟨y, hy⟩ := tmod_dvd (wrdY M N i) 12
    have e : wrdY M N i = expM M i := if_pos (by omega)
    rw [expL, sumL_snoc]
    show (12 : Int) ∣ sumT (wrdY M N) i + (wrdY M N i).tmod 12 - (sumL (expL M i) + expM M i)
    rw [e] at hy ⊢
    exact ⟨x + y, by omega⟩
theorem sumT_all {M : Mx} {N : Nat} : (12 : Int) ∣ sumT (wrdY M N) (N + 1) - sumL (expL M N ++ [(itM M N).a * (itM M N).b]) := by
  obtain ⟨x, ih⟩ := sumT_exp (M := M) (N := N) N (Nat.le_refl _)
  obtain ⟨y, hy⟩ := tmod_dvd (wrdY M N N) 12
  have e : wrdY M N N = (itM M N).a * (itM M N).b := if_neg (by omega)
  rw [sumL_snoc]
  show (12 : Int) ∣ sumT (wrdY M N) N + (wrdY M N N).tmod 12 - _
  rw [e] at hy ⊢
  generalize (itM M N).a * (itM M N).b = ab at *
  exact ⟨x + y, by omega⟩
/-- the class that is reckoned -/
def clsZ (M : Mx) (N : Nat) : Int := 9 * N + sumT (wrdY M N) (N + 1) + if (itM M N).a < 0 then 6 else 0
def abZ (M : Mx) (N : Nat) : Int := ((clsZ M N).tmod 12 + 12).tmod 12
theorem abZ_law {M : Mx} {N : Nat} (h : FacI M N) (hc : (itM M N).c = 0) : (12 : Int) ∣ psi12 M - abZ M N := by
  have f := h.w.fin hc sumT_all
  rw [expL_len] at f
  have f' : (12 : Int) ∣ psi12 M - clsZ M N := f
  obtain ⟨x, hx⟩ := f'
  obtain ⟨y, hy⟩ := tmod_dvd (clsZ M N) 12
  obtain ⟨z, hz⟩ := tmod_dvd ((clsZ M N).tmod 12 + 12) 12
  unfold abZ
  exact ⟨x - y - z - 1, by omega⟩
end HP
namespace Go.Proofs.Ythfnbpnplbbibaa
open Go Go.RowKit Go.VG HP
theorem nearest_sp (a c : Int) (ha : a.natAbs ≤ 1073741824) (hcb : c.natAbs ≤ 1073741824) (hc : c ≠ 0) : Sp CX 96 [int .i64 a, int .i64 c] (.tup [.c (ix (nqZ a c)), .c (ix (nrZ a c.natAbs))]) := by
  obtain ⟨k, hk⟩ : ∃ k, k = c.natAbs := ⟨_, rfl⟩
  obtain ⟨t1, t2, t3⟩ := tmod_emodP a k (by omega)
  have en : nrZ a c.natAbs = if (k : Int) < 2 * (a % k) then a % k - k else a % k := by rw [hk]; rfl
  have eqq : nqZ a c = (a - nrZ a c.natAbs).tdiv c := rfl
  rw [eqq, en]
  clear en eqq
  refine fn_sp (C := CX) [(1,0)] [] tysX_ok mixed Try.func96 rfl (by kernel_rfl) Try.ntmps96 rfl rfl ?_
  repeat' ((conv => whnf); first | refine Ob.g ?_ | refine WrOb.g ?_ | refine WrOb.u32 ?_ | refine WrOb.u64 ?_ | refine Cases.y ?_ | refine Cases.n ?_ | refine Idx.g rfl ?_ | refine Idx.z rfl ?_ | refine DrawOb.start ?_ | refine TryF.f ?_ | refine TryF.next rfl ?_ | refine TryF.other ?_ | refine TryA.g ?_ | refine TryA.next rfl ?_ | refine TryA.other ?_ | refine TryS.g ?_ | refine TryS.next rfl ?_ | refine TryS.other ?_ | refine TryG.g ?_ | refine TryG.next rfl ?_ | refine TryG.other ?_ | refine TryT.g ?_ | refine TryT.z ?_ | refine EmpOb.mk rfl ?_)
  refine ⟨⟨Unit, fun _ => ⟨[(0, int .i64 a), (1, int .i64 c), (6, int .i64 k)], [], 0⟩, fun _ => True, ?_, ?_⟩⟩
  · repeat' ((conv => whnf); first | refine Ob.g ?_ | refine WrOb.g ?_ | refine WrOb.u32 ?_ | refine WrOb.u64 ?_ | refine Cases.y ?_ | refine Cases.n ?_ | refine Idx.g rfl ?_ | refine Idx.z rfl ?_ | refine DrawOb.start ?_ | refine TryF.f ?_ | refine TryF.next rfl ?_ | refine TryF.other ?_ | refine TryA.g ?_ | refine TryA.next rfl ?_ | refine TryA.other ?_ | refine TryS.g ?_ | refine TryS.next rfl ?_ | refine TryS.other ?_ | refine TryG.g ?_ | refine TryG.next rfl ?_ | refine TryG.other ?_ | refine TryT.g ?_ | refine TryT.z ?_ | refine EmpOb.mk rfl ?_)
    exact ⟨(), [], trivial, by
      refine ⟨?_, .nil, rfl⟩
      refine .cons (.refl _) (.cons (.refl _) (.cons (.int ?_) .nil))
      show (if c < -c then -c else c) = _
      split <;> omega⟩
  rintro ⟨⟩ -
  by_cases h1 : a.tmod k < 0
  · rw [if_pos h1] at t3
    by_cases h2 : (k : Int) < 2 * (a % k)
    · rw [if_pos h2]
      repeat' ((conv => whnf); first | refine Ob.g ?_ | refine WrOb.g ?_ | refine WrOb.u32 ?_ | refine WrOb.u64 ?_ | refine Cases.y ?_ | refine Cases.n ?_ | refine Idx.g rfl ?_ | refine Idx.z rfl ?_ | refine DrawOb.start ?_ | refine TryF.f ?_ | refine TryF.next rfl ?_ | refine TryF.other ?_ | refine TryA.g ?_ | refine TryA.next rfl ?_ | refine TryA.other ?_ | refine TryS.g ?_ | refine TryS.next rfl ?_ | refine TryS.other ?_ | refine TryG.g ?_ | refine TryG.next rfl ?_ | refine TryG.other ?_ | refine TryT.g ?_ | refine TryT.z ?_ | refine EmpOb.mk rfl ?_)
      refine ⟨⟨_, _, rfl, rfl, ?_⟩⟩
      exact .tup (.cons (.int (congrArg (fun x => Int.tdiv x c) (by omega))) (.cons (.int (by omega)) .nil))
    · rw [if_neg h2]
      repeat' ((conv => whnf); first | refine Ob.g ?_ | refine WrOb.g ?_ | refine WrOb.u32 ?_ | refine WrOb.u64 ?_ | refine Cases.y ?_ | refine Cases.n ?_ | refine Idx.g rfl ?_ | refine Idx.z rfl ?_ | refine DrawOb.start ?_ | refine TryF.f ?_ | refine TryF.next rfl ?_ | refine TryF.other ?_ | refine TryA.g ?_ | refine TryA.next rfl ?_ | refine TryA.other ?_ | refine TryS.g ?_ | refine TryS.next rfl ?_ | refine TryS.other ?_ | refine TryG.g ?_ | refine TryG.next rfl ?_ | refine TryG.other ?_ | refine TryT.g ?_ | refine TryT.z ?_ | refine EmpOb.mk rfl ?_)
      refine ⟨⟨_, _, rfl, rfl, ?_⟩⟩
      exact .tup (.cons (.int (congrArg (fun x => Int.tdiv x c) (by omega))) (.cons (.int (by omega)) .nil))
  · rw [if_neg h1] at t3
    by_cases h2 : (k : Int) < 2 * (a % k)
    · rw [if_pos h2]
      repeat' ((conv => whnf); first | refine Ob.g ?_ | refine WrOb.g ?_ | refine WrOb.u32 ?_ | refine WrOb.u64 ?_ | refine Cases.y ?_ | refine Cases.n ?_ | refine Idx.g rfl ?_ | refine Idx.z rfl ?_ | refine DrawOb.start ?_ | refine TryF.f ?_ | refine TryF.next rfl ?_ | refine TryF.other ?_ | refine TryA.g ?_ | refine TryA.next rfl ?_ | refine TryA.other ?_ | refine TryS.g ?_ | refine TryS.next rfl ?_ | refine TryS.other ?_ | refine TryG.g ?_ | refine TryG.next rfl ?_ | refine TryG.other ?_ | refine TryT.g ?_ | refine TryT.z ?_ | refine EmpOb.mk rfl ?_)
      refine ⟨⟨_, _, rfl, rfl, ?_⟩⟩
      exact .tup (.cons (.int (congrArg (fun x => Int.tdiv x c) (by omega))) (.cons (.int (by omega)) .nil))
    · rw [if_neg h2]
      repeat' ((conv => whnf); first | refine Ob.g ?_ | refine WrOb.g ?_ | refine WrOb.u32 ?_ | refine WrOb.u64 ?_ | refine Cases.y ?_ | refine Cases.n ?_ | refine Idx.g rfl ?_ | refine Idx.z rfl ?_ | refine DrawOb.start ?_ | refine TryF.f ?_ | refine TryF.next rfl ?_ | refine TryF.other ?_ | refine TryA.g ?_ | refine TryA.next rfl ?_ | refine TryA.other ?_ | refine TryS.g ?_ | refine TryS.next rfl ?_ | refine TryS.other ?_ | refine TryG.g ?_ | refine TryG.next rfl ?_ | refine TryG.other ?_ | refine TryT.g ?_ | refine TryT.z ?_ | refine EmpOb.mk rfl ?_)
      refine ⟨⟨_, _, rfl, rfl, ?_⟩⟩
      exact .tup (.cons (.int (congrArg (fun x => Int.tdiv x c) (by omega))) (.cons (.int (by omega)) .nil))
theorem Factor_bad (a b c d : Int) (hE : matE a b c d ≠ 0) : Sp CX 73 [mA a b c d] (.tup [.agg iZ, .c (ix (matE a b c d))]) := by
  have s := Check_sp a b c d
  generalize matE a b c d = e at *
  refine fn_sp (C := CX) [] [] tysX_ok mixed Try.func73 rfl (by kernel_rfl) Try.ntmps73 rfl rfl ?_
  repeat' ((conv => whnf); first | refine Ob.g ?_ | refine WrOb.g ?_ | refine WrOb.u32 ?_ | refine WrOb.u64 ?_ | refine Cases.y ?_ | refine Cases.n ?_ | refine Idx.g rfl ?_ | refine Idx.z rfl ?_ | refine DrawOb.start ?_ | refine TryF.f ?_ | refine TryF.next rfl ?_ | refine TryF.other ?_ | refine TryA.g ?_ | refine TryA.next rfl ?_ | refine TryA.other ?_ | refine TryS.g ?_ | refine TryS.next rfl ?_ | refine TryS.other ?_ | refine TryG.g ?_ | refine TryG.next rfl ?_ | refine TryG.other ?_ | refine TryT.g ?_ | refine TryT.z ?_ | refine EmpOb.mk rfl ?_ | refine Sp.g (s) ?_)
  refine ⟨⟨_, _, rfl, rfl, ?_⟩⟩
  exact AvLe.refl _
theorem one_zl {z : Int} : ∀ i j : Nat, i < 1 → j < 1 → LeafLe (getL [ix z] (i * 1 + j)) (ix ((fun _ => z) i)) := fun i j hi hj => by
  obtain rfl : i = 0 := by omega
  obtain rfl : j = 0 := by omega
  exact .refl _
set_option maxHeartbeats 8000000 in
theorem Factor_ok (a b c d : Int) (hE : matE a b c d = 0) (N : Nat) (hN : ∀ i, i < N → (itM ⟨a, b, c, d⟩ i).c ≠ 0) (hN0 : (itM ⟨a, b, c, d⟩ N).c = 0) :
    Sp CX 73 [mA a b c d] (.tup [.agg [.x (.bool (decide ((itM ⟨a, b, c, d⟩ N).a < 0))), .sl 1 Int (fun z _ => ix z) (wrdY ⟨a, b, c, d⟩ N) (N + 1)], .c (ix 0)]) := by
  have s := Check_sp a b c d
  rw [hE] at s
  obtain ⟨⟨⟨a1, a2⟩, ⟨b1, b2⟩, ⟨c1, c2⟩, ⟨d1, d2⟩⟩, hd⟩ := mat_ok hE
  obtain ⟨M, hM⟩ : ∃ M : Mx, M = ⟨a, b, c, d⟩ := ⟨_, rfl⟩
  have h0 : FacI M 0 := by
    subst hM
    exact ⟨WordI.start hd, by show a.natAbs ≤ _; omega, by show b.natAbs ≤ _; omega, by show c.natAbs * 1 ≤ _; omega, by show d.natAbs ≤ _; omega⟩
  have e0 : itM M 0 = ⟨a, b, c, d⟩ := hM
  rw [← hM] at hN hN0 ⊢
  have hall := wfac_all h0 hN
  refine fn_sp (C := CX) [] [4] tysX_ok mixed Try.func73 rfl (by kernel_rfl) Try.ntmps73 rfl rfl ?_
  repeat' ((conv => whnf); first | refine Ob.g ?_ | refine WrOb.g ?_ | refine WrOb.u32 ?_ | refine WrOb.u64 ?_ | refine Cases.y ?_ | refine Cases.n ?_ | refine Idx.g rfl ?_ | refine Idx.z rfl ?_ | refine DrawOb.start ?_ | refine TryF.f ?_ | refine TryF.next rfl ?_ | refine TryF.other ?_ | refine TryA.g ?_ | refine TryA.next rfl ?_ | refine TryA.other ?_ | refine TryS.g ?_ | refine TryS.next rfl ?_ | refine TryS.other ?_ | refine TryG.g ?_ | refine TryG.next rfl ?_ | refine TryG.other ?_ | refine TryT.g ?_ | refine TryT.z ?_ | refine EmpOb.mk rfl ?_ | refine Sp.g (s) ?_)
  refine ⟨⟨Nat × (Nat → Int), fun (n, H) => ⟨[(1, .v (.c (.loc 0 0))), (2, .v (.c (.loc 1 0))), (5, .v (.c (.loc 2 0)))], [(0, .st [ix (itM M n).a, ix (itM M n).b, ix (itM M n).c, ix (itM M n).d]), (1, .st [.x (.bool false), .x (.slice none 0 0)]), (2, .st [.x (.bool false), .row 3]), (3, .rw 1 3 false Int (fun z _ => ix z) H n)], 4⟩, fun (n, H) => n ≤ N ∧ ∀ i, i < n → H i = expM M i, fun (n, _) => N - n, ⟨(0, fun _ => 0), [.m 2 1 3 1 3], ⟨Nat.zero_le _, fun i hi => absurd hi (Nat.not_lt_zero _)⟩, by
    dsimp only
    rw [e0]
    exact Ent.g⟩, ?_⟩⟩
  rintro ⟨n, H⟩ ⟨n1, hH⟩
  have fI := hall n n1
  have ma := fI.a
  have mb := fI.b
  have mc := fI.c'
  have md := fI.d
  by_cases hn : n < N
  · have hc := hN n hn
    have n30 := fI.small hc
    obtain ⟨_, _, eb⟩ := fI.step hc
    have ne := nearest_sp (itM M n).a (itM M n).c ma mc hc
    obtain ⟨ns1, ns2⟩ := near_spec (a := (itM M n).a) hc
    have es : itM M (n + 1) = ⟨(itM M n).c, (itM M n).d, -(nrZ (itM M n).a (itM M n).c.natAbs), expM M n * (itM M n).d - (itM M n).b⟩ := rfl
    have ee : nqZ (itM M n).a (itM M n).c = expM M n := rfl
    rw [ee] at ne
    have qb := mulbd (x := expM M n) (y := (itM M n).d) (X := 1073741825) (Y := 1073741824) eb md
    clear fI s ns1
    repeat' ((conv => whnf); first | refine Ob.g ?_ | refine WrOb.g ?_ | refine WrOb.u32 ?_ | refine WrOb.u64 ?_ | refine Cases.y ?_ | refine Cases.n ?_ | refine Idx.g rfl ?_ | refine Idx.z rfl ?_ | refine DrawOb.start ?_ | refine TryF.f ?_ | refine TryF.next rfl ?_ | refine TryF.other ?_ | refine TryA.g ?_ | refine TryA.next rfl ?_ | refine TryA.other ?_ | refine TryS.g ?_ | refine TryS.next rfl ?_ | refine TryS.other ?_ | refine TryG.g ?_ | refine TryG.next rfl ?_ | refine TryG.other ?_ | refine TryT.g ?_ | refine TryT.z ?_ | refine EmpOb.mk rfl ?_ | refine Sp.g (ne) ?_)
    refine ⟨⟨fun _ => expM M n, one_zl, fun _ _ _ _ => rfl, ?_⟩⟩
    repeat' ((conv => whnf); first | refine Ob.g ?_ | refine WrOb.g ?_ | refine WrOb.u32 ?_ | refine WrOb.u64 ?_ | refine Cases.y ?_ | refine Cases.n ?_ | refine Idx.g rfl ?_ | refine Idx.z rfl ?_ | refine DrawOb.start ?_ | refine TryF.f ?_ | refine TryF.next rfl ?_ | refine TryF.other ?_ | refine TryA.g ?_ | refine TryA.next rfl ?_ | refine TryA.other ?_ | refine TryS.g ?_ | refine TryS.next rfl ?_ | refine TryS.other ?_ | refine TryG.g ?_ | refine TryG.next rfl ?_ | refine TryG.other ?_ | refine TryT.g ?_ | refine TryT.z ?_ | refine EmpOb.mk rfl ?_)
    exact ⟨(n + 1, fun j => if j < n then H j else expM M n), [.s 3 4], ⟨hn, fun i hi => by
      show (if i < n then H i else expM M n) = _
      by_cases h : i < n
      · rw [if_pos h]; exact hH i h
      · rw [if_neg h, show i = n by omega]⟩, by show N - (n + 1) < N - n; omega, by
      dsimp only
      rw [es]
      exact Ent.g⟩
  · obtain rfl : n = N := by omega
    have pb := mulbd (x := (itM M n).a) (y := (itM M n).b) (X := 1073741824) (Y := 1073741824) ma mb
    have n31 : n ≤ 31 := by
      rcases Nat.eq_zero_or_pos n with h | h
      · omega
      · have := (hall (n - 1) (by omega)).small (hN (n - 1) (by omega))
        omega
    clear fI s
    repeat' ((conv => whnf); first | refine Ob.g ?_ | refine WrOb.g ?_ | refine WrOb.u32 ?_ | refine WrOb.u64 ?_ | refine Cases.y ?_ | refine Cases.n ?_ | refine Idx.g rfl ?_ | refine Idx.z rfl ?_ | refine DrawOb.start ?_ | refine TryF.f ?_ | refine TryF.next rfl ?_ | refine TryF.other ?_ | refine TryA.g ?_ | refine TryA.next rfl ?_ | refine TryA.other ?_ | refine TryS.g ?_ | refine TryS.next rfl ?_ | refine TryS.other ?_ | refine TryG.g ?_ | refine TryG.next rfl ?_ | refine TryG.other ?_ | refine TryT.g ?_ | refine TryT.z ?_ | refine EmpOb.mk rfl ?_)
    refine ⟨⟨fun _ => (itM M n).a * (itM M n).b, one_zl, fun _ _ _ _ => rfl, ?_⟩⟩
    repeat' ((conv => whnf); first | refine Ob.g ?_ | refine WrOb.g ?_ | refine WrOb.u32 ?_ | refine WrOb.u64 ?_ | refine Cases.y ?_ | refine Cases.n ?_ | refine Idx.g rfl ?_ | refine Idx.z rfl ?_ | refine DrawOb.start ?_ | refine TryF.f ?_ | refine TryF.next rfl ?_ | refine TryF.other ?_ | refine TryA.g ?_ | refine TryA.next rfl ?_ | refine TryA.other ?_ | refine TryS.g ?_ | refine TryS.next rfl ?_ | refine TryS.other ?_ | refine TryG.g ?_ | refine TryG.next rfl ?_ | refine TryG.other ?_ | refine TryT.g ?_ | refine TryT.z ?_ | refine EmpOb.mk rfl ?_)
    refine ⟨⟨_, _, rfl, rfl, ?_⟩⟩
    refine .tup (.cons (.agg (.cons (.refl _) (.cons (.sl fun i j hi _ => ?_) .nil))) (.cons (.refl _) .nil))
    have e : appZ Int H (fun _ => (itM M n).a * (itM M n).b) n i = wrdY M n i := by
      unfold appZ wrdY
      by_cases h : i < n
      · rw [if_pos h, if_pos h]; exact hH i h
      · rw [if_neg h, if_neg h]
    rw [e]
    exact .refl _
end Go.Proofs.Ythfnbpnplbbibaa

/- The laws of Dedekind sums in letters: the class of a word, the examples. -/
namespace HP
theorem fac_len {M : Mx} {N : Nat} (h0 : FacI M 0) (hN : ∀ i, i < N → (itM M i).c ≠ 0) : N ≤ 31 := by
  rcases Nat.eq_zero_or_pos N with h | h
  · omega
  · have := (wfac_all h0 hN (N - 1) (by omega)).small (hN (N - 1) (by omega))
    omega
theorem facI0 {a b c d : Int} (ha : a.natAbs ≤ 1073741824) (hb : b.natAbs ≤ 1073741824) (hc : c.natAbs ≤ 1073741824) (hd : d.natAbs ≤ 1073741824) (h : a * d - b * c = 1) : FacI ⟨a, b, c, d⟩ 0 :=
  ⟨WordI.start h, ha, hb, by show c.natAbs * 1 ≤ _; omega, hd⟩
theorem abZ_bd (M : Mx) (N : Nat) : 0 ≤ abZ M N ∧ abZ M N < 12 := by
  unfold abZ
  obtain ⟨a, b, _⟩ := tmod_emodP (clsZ M N) 12 (by omega)
  have e : ((clsZ M N).tmod 12 + 12).tmod 12 = ((clsZ M N).tmod 12 + 12) % 12 := Int.tmod_eq_emod_of_nonneg (by omega)
  rw [e]
  omega
end HP
namespace Go.Proofs.Ythfnbpnplbbibaa
open Go Go.RowKit Go.VG HP
theorem Abel_bad (a b c d : Int) (hE : matE a b c d ≠ 0) : Sp CX 43 [mA a b c d] (.tup [.c (ix 0), .c (ix (matE a b c d))]) := by
  have s := Factor_bad a b c d hE
  generalize matE a b c d = e at *
  refine fn_sp (C := CX) [] [] tysX_ok mixed Try.func43 rfl (by kernel_rfl) Try.ntmps43 rfl rfl ?_
  repeat' ((conv => whnf); first | refine Ob.g ?_ | refine WrOb.g ?_ | refine WrOb.u32 ?_ | refine WrOb.u64 ?_ | refine Cases.y ?_ | refine Cases.n ?_ | refine Idx.g rfl ?_ | refine Idx.z rfl ?_ | refine DrawOb.start ?_ | refine TryF.f ?_ | refine TryF.next rfl ?_ | refine TryF.other ?_ | refine TryA.g ?_ | refine TryA.next rfl ?_ | refine TryA.other ?_ | refine TryS.g ?_ | refine TryS.next rfl ?_ | refine TryS.other ?_ | refine TryG.g ?_ | refine TryG.next rfl ?_ | refine TryG.other ?_ | refine TryT.g ?_ | refine TryT.z ?_ | refine EmpOb.mk rfl ?_ | refine Sp.g (s) ?_)
  refine ⟨⟨_, _, rfl, rfl, ?_⟩⟩
  exact AvLe.refl _
set_option maxHeartbeats 4000000 in
theorem Abel_ok (a b c d : Int) (hE : matE a b c d = 0) (N : Nat) (hN : ∀ i, i < N → (itM ⟨a, b, c, d⟩ i).c ≠ 0) (hN0 : (itM ⟨a, b, c, d⟩ N).c = 0) (h31 : N ≤ 31) :
    Sp CX 43 [mA a b c d] (.tup [.c (ix (abZ ⟨a, b, c, d⟩ N)), .c (ix 0)]) := by
  have s := Factor_ok a b c d hE N hN hN0
  generalize hM : (Mx.mk a b c d) = M at *
  obtain ⟨Y, hY⟩ : ∃ Y, Y = wrdY M N := ⟨_, rfl⟩
  obtain ⟨A, hA⟩ : ∃ A, A = (itM M N).a := ⟨_, rfl⟩
  have ec : ∀ s : Int, s = 9 * N + sumT Y (N + 1) → clsZ M N = if A < 0 then s + 6 else s := fun s h => by
    unfold clsZ
    rw [← hY, ← hA]
    split <;> omega
  have ea : abZ M N = ((clsZ M N).tmod 12 + 12).tmod 12 := rfl
  rw [ea]
  rw [← hY, ← hA] at s
  clear hY hA ea
  refine fn_sp (C := CX) [] [] tysX_ok mixed Try.func43 rfl (by kernel_rfl) Try.ntmps43 rfl rfl ?_
  repeat' ((conv => whnf); first | refine Ob.g ?_ | refine WrOb.g ?_ | refine WrOb.u32 ?_ | refine WrOb.u64 ?_ | refine Cases.y ?_ | refine Cases.n ?_ | refine Idx.g rfl ?_ | refine Idx.z rfl ?_ | refine DrawOb.start ?_ | refine TryF.f ?_ | refine TryF.next rfl ?_ | refine TryF.other ?_ | refine TryA.g ?_ | refine TryA.next rfl ?_ | refine TryA.other ?_ | refine TryS.g ?_ | refine TryS.next rfl ?_ | refine TryS.other ?_ | refine TryG.g ?_ | refine TryG.next rfl ?_ | refine TryG.other ?_ | refine TryT.g ?_ | refine TryT.z ?_ | refine EmpOb.mk rfl ?_ | refine Sp.g (s) ?_)
  refine ⟨⟨Nat × Int, fun (i, z) => ⟨[(4, .v (.c (.loc 1 0))), (6, int .i64 z), (23, .v (.c (.sl 1 Int (fun z _ => ix z) Y (N + 1)))), (24, int .i64 ((N + 1 : Nat) : Int)), (25, int .i64 i)], [(1, .st [.x (.bool (decide (A < 0))), .sl 1 Int (fun z _ => ix z) Y (N + 1)])], 2⟩, fun (i, z) => i ≤ N + 1 ∧ z = 9 * N + sumT Y i, fun (i, _) => N + 1 - i, ⟨(0, 9 * N), [], ⟨Nat.zero_le _, (Int.add_zero _).symm⟩, Ent.g⟩, ?_⟩⟩
  rintro ⟨i, z⟩ ⟨i1, ez⟩
  clear s
  have sb := sumT_bd Y i
  by_cases hi : i < N + 1
  · have t := tmod_emodP (Y i) 12 (by omega)
    have es : sumT Y (i + 1) = sumT Y i + (Y i).tmod 12 := rfl
    clear ec
    repeat' ((conv => whnf); first | refine Ob.g ?_ | refine WrOb.g ?_ | refine WrOb.u32 ?_ | refine WrOb.u64 ?_ | refine Cases.y ?_ | refine Cases.n ?_ | refine Idx.g rfl ?_ | refine Idx.z rfl ?_ | refine DrawOb.start ?_ | refine TryF.f ?_ | refine TryF.next rfl ?_ | refine TryF.other ?_ | refine TryA.g ?_ | refine TryA.next rfl ?_ | refine TryA.other ?_ | refine TryS.g ?_ | refine TryS.next rfl ?_ | refine TryS.other ?_ | refine TryG.g ?_ | refine TryG.next rfl ?_ | refine TryG.other ?_ | refine TryT.g ?_ | refine TryT.z ?_ | refine EmpOb.mk rfl ?_)
    exact ⟨(i + 1, z + (Y i).tmod 12), [], ⟨hi, by rw [es, ez]; omega⟩, by show N + 1 - (i + 1) < N + 1 - i; omega, Ent.g⟩
  · obtain rfl : i = N + 1 := by omega
    have e := ec z ez
    have t1 := tmod_emodP (z + 6) 12 (by omega)
    have t2 := tmod_emodP z 12 (by omega)
    clear ec
    by_cases hA : A < 0
    · rw [if_pos hA] at e
      rw [e]
      repeat' ((conv => whnf); first | refine Ob.g ?_ | refine WrOb.g ?_ | refine WrOb.u32 ?_ | refine WrOb.u64 ?_ | refine Cases.y ?_ | refine Cases.n ?_ | refine Idx.g rfl ?_ | refine Idx.z rfl ?_ | refine DrawOb.start ?_ | refine TryF.f ?_ | refine TryF.next rfl ?_ | refine TryF.other ?_ | refine TryA.g ?_ | refine TryA.next rfl ?_ | refine TryA.other ?_ | refine TryS.g ?_ | refine TryS.next rfl ?_ | refine TryS.other ?_ | refine TryG.g ?_ | refine TryG.next rfl ?_ | refine TryG.other ?_ | refine TryT.g ?_ | refine TryT.z ?_ | refine EmpOb.mk rfl ?_)
      refine ⟨⟨_, _, rfl, rfl, ?_⟩⟩
      exact AvLe.refl _
    · rw [if_neg hA] at e
      rw [e]
      repeat' ((conv => whnf); first | refine Ob.g ?_ | refine WrOb.g ?_ | refine WrOb.u32 ?_ | refine WrOb.u64 ?_ | refine Cases.y ?_ | refine Cases.n ?_ | refine Idx.g rfl ?_ | refine Idx.z rfl ?_ | refine DrawOb.start ?_ | refine TryF.f ?_ | refine TryF.next rfl ?_ | refine TryF.other ?_ | refine TryA.g ?_ | refine TryA.next rfl ?_ | refine TryA.other ?_ | refine TryS.g ?_ | refine TryS.next rfl ?_ | refine TryS.other ?_ | refine TryG.g ?_ | refine TryG.next rfl ?_ | refine TryG.other ?_ | refine TryT.g ?_ | refine TryT.z ?_ | refine EmpOb.mk rfl ?_)
      refine ⟨⟨_, _, rfl, rfl, ?_⟩⟩
      exact AvLe.refl _
theorem sp_le {C : Ctx} {f : FuncId} {args args' : List AV} {r : AV} (h : Sp C f args r) (ha : ArgsLe args' args) : Sp C f args' r :=
  ⟨h.ok, h.cl, fun O w vs hO hG hv => h.w O w vs hO hG fun ρ w' hx => ha.args (hv ρ w' hx)⟩
theorem sameI0 : Sp CX 33 [.v (.agg iZ), .v (.agg iZ)] (bool true) := by
  have s := SameInt_sp 0 (by decide)
  exact sp_le s (.cons (.agg (.cons (.bool rfl) (.cons .nil .nil))) (.cons (.agg (.cons (.bool rfl) (.cons .nil .nil))) .nil))
theorem sameQ0 : Sp CX 15 [.v (.agg qZ), .v (.agg qZ)] (bool true) := by
  have s := sameI0
  refine fn_sp (C := CX) [] [] tysX_ok mixed Try.func15 rfl (by kernel_rfl) Try.ntmps15 rfl rfl ?_
  repeat' ((conv => whnf); first | refine Ob.g ?_ | refine WrOb.g ?_ | refine WrOb.u32 ?_ | refine WrOb.u64 ?_ | refine Cases.y ?_ | refine Cases.n ?_ | refine Idx.g rfl ?_ | refine Idx.z rfl ?_ | refine DrawOb.start ?_ | refine TryF.f ?_ | refine TryF.next rfl ?_ | refine TryF.other ?_ | refine TryA.g ?_ | refine TryA.next rfl ?_ | refine TryA.other ?_ | refine TryS.g ?_ | refine TryS.next rfl ?_ | refine TryS.other ?_ | refine TryG.g ?_ | refine TryG.next rfl ?_ | refine TryG.other ?_ | refine TryT.g ?_ | refine TryT.z ?_ | refine EmpOb.mk rfl ?_ | refine Sp.g (s) ?_)
  refine ⟨⟨_, _, rfl, rfl, ?_⟩⟩
  exact AvLe.refl _
theorem sR_13 : sR 1 3 = Rat.divInt 1 18 := by decide +kernel
theorem rad_aw : rad ⟨0, -1, 1, 1⟩ = 1 := by decide +kernel
theorem mul_aw : mulV ⟨0, -1, 1, 0⟩ (prs (fun _ => 1) (fun _ => 2) 1) = Rat.divInt 3 4 := by decide +kernel
theorem dvs_1 : dvs 1 = [1] := by decide +kernel
theorem QB.lit {n d : Int} (hd : d ≠ 0) (h1 : n.natAbs ≤ 1000) (h2 : d.natAbs ≤ 1000) : QB 1 (Rat.divInt n d) := QB.divInt hd (ln_i (by omega)) (ln_i (by omega))
theorem lit_two : LeafLe (.sl 1 Nat (fun i j => getL [.x (.int .i64 2)] (i * 1 + j)) id 1) (.sl 1 Int (fun z _ => ix z) (fun _ => 2) 1) := .sl fun i j hi hj => by
  obtain rfl : i = 0 := by omega
  obtain rfl : j = 0 := by omega
  exact .refl _
set_option maxHeartbeats 4000000 in
theorem daw_sp : Sp CX 12 [] (bool true) := by
  have s1 := Sum_ok 1 3 (by omega) (by omega) ⟨by omega, by omega⟩ (by decide)
  rw [sR_13] at s1
  have s2 := Phi_ok 0 (-1) 1 1 (by decide)
  rw [rad_aw] at s2
  have s3 := Mult_ok 1 (by omega) (by omega) (fun _ => 1) (fun _ => 2) 1 ⟨fun i x h => by
    rw [dvs_1] at h
    match i, h with
    | 0, h => simpa using h
    | i + 1, h => simp at h, by rw [dvs_1]; rfl⟩ 0 (-1) 1 0 (fun _ _ => ⟨by omega, by omega⟩) (mulO (fun _ => 1) (fun _ => 2) 1 0 (-1) 1 0)
    (.inr ⟨fun _ _ => ⟨show (-200 : Int) ≤ 2 by omega, show (2 : Int) ≤ 200 by omega⟩, .inr ⟨by decide, .inr ⟨by decide, .inr ⟨by decide, rfl⟩⟩⟩⟩)
  unfold mulO at s3
  rw [mul_aw] at s3
  have f1 := Frac_sp 1 18 (by omega) (by omega) (by omega) (by omega)
  have f2 := Frac_sp 3 4 (by omega) (by omega) (by omega) (by omega)
  have z := Z_sp 1 (by omega) (by omega)
  have r1 := SameRat_sp (Rat.divInt 1 18) ((QB.lit (by omega) (by omega) (by omega)).mono (by omega))
  have r2 := SameRat_sp (Rat.divInt 3 4) ((QB.lit (by omega) (by omega) (by omega)).mono (by omega))
  have i1 := SameInt_sp 1 (by decide)
  generalize Rat.divInt 1 18 = A at *
  generalize Rat.divInt 3 4 = B at *
  have s4 := sp_le s3 (.cons (.refl _) (.cons (.leaf lit_two) (.cons (.refl _) .nil)))
  clear s3
  refine fn_sp (C := CX) [] [] tysX_ok mixed Try.func12 rfl (by kernel_rfl) Try.ntmps12 rfl rfl ?_
  repeat' ((conv => whnf); first | refine Ob.g ?_ | refine WrOb.g ?_ | refine WrOb.u32 ?_ | refine WrOb.u64 ?_ | refine Cases.y ?_ | refine Cases.n ?_ | refine Idx.g rfl ?_ | refine Idx.z rfl ?_ | refine DrawOb.start ?_ | refine TryF.f ?_ | refine TryF.next rfl ?_ | refine TryF.other ?_ | refine TryA.g ?_ | refine TryA.next rfl ?_ | refine TryA.other ?_ | refine TryS.g ?_ | refine TryS.next rfl ?_ | refine TryS.other ?_ | refine TryG.g ?_ | refine TryG.next rfl ?_ | refine TryG.other ?_ | refine TryT.g ?_ | refine TryT.z ?_ | refine EmpOb.mk rfl ?_ | refine Sp.g (s1) ?_ | refine Sp.g (s2) ?_ | refine Sp.g (s4) ?_ | refine Sp.g (f1) ?_ | refine Sp.g (f2) ?_ | refine Sp.g (z) ?_ | refine Sp.g (r1) ?_ | refine Sp.g (r2) ?_ | refine Sp.g (i1) ?_)
  refine ⟨⟨_, _, rfl, rfl, ?_⟩⟩
  exact AvLe.refl _
end Go.Proofs.Ythfnbpnplbbibaa

