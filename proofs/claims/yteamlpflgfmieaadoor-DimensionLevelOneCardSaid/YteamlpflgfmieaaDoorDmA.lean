/- States in letters: Kronecker's symbol of the reference; the formulas. -/
import Derived.Test.YteamlpflgfmieaaDoorVgY
namespace Go.Proofs.YteamlpflgfmieaaDoor
open Go Go.RowKit Go.VG HP
theorem jac_out {d : Int} {a p : Nat} (hp : Prm p) (h120 : p ≤ 120) (ha : 0 < a) (hd : a % p = 0) : jac d a = symV d p * jac d (a / p) := by
  have e : a = p * (a / p) := by have := Nat.div_add_mod a p; omega
  have hpos : 0 < a / p := Nat.div_pos (Nat.le_of_dvd ha (Nat.dvd_of_mod_eq_zero hd)) hp.pos
  rw [symV_kr hp h120]
  conv => lhs; rw [e]
  exact ext_prime_mul _ hp _ hpos
set_option maxHeartbeats 4000000 in
theorem kron28_sp (d : Int) (A : Nat) (h1 : -1000000 ≤ d) (h2 : d ≤ 1000000) (hA : 1 ≤ A) (hA2 : A ≤ 120) : Sp CX 40 [int .i64 d, int .i64 A] (int .i64 (jac d A)) := by
  refine fn_sp (C := CX) [] [] tysX_ok mixed Tryd.func40 rfl (by kernel_rfl) Tryd.ntmps40 rfl rfl ?_
  repeat' (conv => whnf
           first
             | (refine Ob.mk (by (first | omega | (simp only [InK]; omega) | exact ⟨by omega, tdivIn (by omega) (by omega)⟩ | exact ⟨by first | omega | (simp only [InK]; omega), by first | omega | (simp only [InK]; omega)⟩)) ?_)
             | (refine Cases.yes (by (first | assumption | exact decide_eq_true (by first | assumption | omega) | exact congrArg (!·) (decide_eq_false (by first | assumption | omega)) | exact congrArg (!·) (show _ = false by assumption) | rfl)) ?_)
             | (refine Cases.no (by (first | assumption | exact decide_eq_false (by first | assumption | omega) | exact congrArg (!·) (decide_eq_true (by first | assumption | omega)) | exact congrArg (!·) (show _ = true by assumption) | rfl)) ?_)
             | (refine Idx.mk ⟨_, rfl, by first | assumption | omega, ?_⟩)
             | (refine Idx.mk ⟨0, rfl, by omega, ?_⟩)
             | (refine DrawOb.start ?_)
             | (refine TryF.fast rfl (by decide +kernel) (by kernel_rfl) ?_)
             | (refine TryF.next rfl ?_)
             | (refine TryF.other ?_)
             | (refine TryG.go rfl (by decide +kernel) (by kernel_rfl) ?_)
             | (refine TryG.next rfl ?_))
  refine ⟨⟨Nat × Int × Nat, fun (a, o, p) => ⟨[(0, int .i64 d), (1, int .i64 a), (5, int .i64 o), (6, int .i64 p)], [], 0⟩, fun (a, o, p) => 0 < a ∧ a ≤ A ∧ 2 ≤ p ∧ p ≤ A + 2 ∧ Rough p a ∧ Tri o ∧ Hid (jac d A = o * jac d a), fun (_, _, p) => A + 3 - p, ⟨(A, 1, 2), [], ⟨hA, Nat.le_refl _, Nat.le_refl _, by omega, rough_two A, .inr (.inl rfl), (Int.one_mul _).symm⟩, (by refine ⟨?_, ?_, rfl⟩ <;> repeat (first | exact TmE.nil | exact OwnE.nil | refine TmE.cons (by first | exact AvLe.refl _ | exact AvLe.int (by omega) | exact AvLe.bool (by first | rfl | assumption)) ?_ | refine OwnE.cons rfl (BlkLe.refl _) ?_ | refine OwnE.cons rfl BlkLe.zero ?_))⟩, ?_⟩⟩
  rintro ⟨a, o, p⟩ ⟨k1, k2, k3, k4, k5, k6, k7⟩
  by_cases ha : 1 < a
  · have hle : p ≤ a := rough_le (by omega) k5
    repeat' (conv => whnf
             first
               | (refine Ob.mk (by (first | omega | (simp only [InK]; omega) | exact ⟨by omega, tdivIn (by omega) (by omega)⟩ | exact ⟨by first | omega | (simp only [InK]; omega), by first | omega | (simp only [InK]; omega)⟩)) ?_)
               | (refine Cases.yes (by (first | assumption | exact decide_eq_true (by first | assumption | omega) | exact congrArg (!·) (decide_eq_false (by first | assumption | omega)) | exact congrArg (!·) (show _ = false by assumption) | rfl)) ?_)
               | (refine Cases.no (by (first | assumption | exact decide_eq_false (by first | assumption | omega) | exact congrArg (!·) (decide_eq_true (by first | assumption | omega)) | exact congrArg (!·) (show _ = true by assumption) | rfl)) ?_)
               | (refine Idx.mk ⟨_, rfl, by first | assumption | omega, ?_⟩)
               | (refine Idx.mk ⟨0, rfl, by omega, ?_⟩)
               | (refine DrawOb.start ?_)
               | (refine TryF.fast rfl (by decide +kernel) (by kernel_rfl) ?_)
               | (refine TryF.next rfl ?_)
               | (refine TryF.other ?_)
               | (refine TryG.go rfl (by decide +kernel) (by kernel_rfl) ?_)
               | (refine TryG.next rfl ?_))
    refine ⟨⟨Nat × Int, fun (b, o) => ⟨[(0, int .i64 d), (1, int .i64 b), (5, int .i64 o), (6, int .i64 p)], [], 0⟩, fun (b, o) => 0 < b ∧ b ≤ A ∧ Rough p b ∧ Tri o ∧ Hid (jac d A = o * jac d b), fun (b, _) => b, ⟨(a, o), [], ⟨k1, k2, k5, k6, k7⟩, (by refine ⟨?_, ?_, rfl⟩ <;> repeat (first | exact TmE.nil | exact OwnE.nil | refine TmE.cons (by first | exact AvLe.refl _ | exact AvLe.int (by omega) | exact AvLe.bool (by first | rfl | assumption)) ?_ | refine OwnE.cons rfl (BlkLe.refl _) ?_ | refine OwnE.cons rfl BlkLe.zero ?_))⟩, ?_⟩⟩
    rintro ⟨b, o2⟩ ⟨m1, m2, m3, m4, m5⟩
    have em : (b : Int).tmod p = ((b % p : Nat) : Int) := (Int.ofNat_tmod b p).symm
    have eq : (b : Int).tdiv p = ((b / p : Nat) : Int) := (Int.ofNat_tdiv b p).symm
    by_cases hd : b % p = 0
    · have hpr := (facs_round k3 m1 m3 (Nat.dvd_of_mod_eq_zero hd)).2
      have hj := jac_out (d := d) hpr (by omega) m1 hd
      have hlb : p ≤ b := Nat.le_of_dvd m1 (Nat.dvd_of_mod_eq_zero hd)
      have hdv : 0 < b / p := Nat.div_pos hlb (by omega)
      have hlt : b / p < b := Nat.div_lt_self m1 (by omega)
      have ht : Tri (o2 * symV d p) := m4.mul (by rw [symV_kr hpr (by omega)]; exact kr_tri hpr d)
      have hi : -1 ≤ o2 * symV d p ∧ o2 * symV d p ≤ 1 := by rcases ht with h | h | h <;> omega
      have hr : Rough p (b / p) := rough_dvd m3 (Nat.div_dvd_of_dvd (Nat.dvd_of_mod_eq_zero hd))
      have hm : jac d A = o2 * symV d p * jac d (b / p) := by rw [m5.out, hj, Int.mul_assoc]
      have HM := Lib.hid hm
      clear hm hj ht m5 k7
      repeat' (conv => whnf
               first
                 | (refine Ob.mk (by (first | omega | (simp only [InK]; omega) | exact ⟨by omega, tdivIn (by omega) (by omega)⟩ | exact ⟨by first | omega | (simp only [InK]; omega), by first | omega | (simp only [InK]; omega)⟩)) ?_)
                 | (refine Cases.yes (by (first | assumption | exact decide_eq_true (by first | assumption | omega) | exact congrArg (!·) (decide_eq_false (by first | assumption | omega)) | exact congrArg (!·) (show _ = false by assumption) | rfl)) ?_)
                 | (refine Cases.no (by (first | assumption | exact decide_eq_false (by first | assumption | omega) | exact congrArg (!·) (decide_eq_true (by first | assumption | omega)) | exact congrArg (!·) (show _ = true by assumption) | rfl)) ?_)
                 | (refine Idx.mk ⟨_, rfl, by first | assumption | omega, ?_⟩)
                 | (refine Idx.mk ⟨0, rfl, by omega, ?_⟩)
                 | (refine DrawOb.start ?_)
                 | (refine TryF.fast rfl (by decide +kernel) (by kernel_rfl) ?_)
                 | (refine TryF.next rfl ?_)
                 | (refine TryF.other ?_)
                 | (refine TryG.go rfl (by decide +kernel) (by kernel_rfl) ?_)
                 | (refine TryG.next rfl ?_)
                 | (refine Sp.call (symbol_sp d p (by omega) (by omega) (by omega) (by omega)) (ArgsLe.refl _) rfl (AvLe.refl _) ?_))
      exact ⟨(b / p, o2 * symV d p), [], ⟨hdv, by omega, hr, by rcases hi with ⟨x, y⟩; unfold Tri; omega, HM.out⟩, hlt, (by refine ⟨?_, ?_, rfl⟩ <;> repeat (first | exact TmE.nil | exact OwnE.nil | refine TmE.cons (by first | exact AvLe.refl _ | exact AvLe.int (by omega) | exact AvLe.bool (by first | rfl | assumption)) ?_ | refine OwnE.cons rfl (BlkLe.refl _) ?_ | refine OwnE.cons rfl BlkLe.zero ?_))⟩
    · have hr : Rough (p + 1) b := rough_next m3 fun h => hd (Nat.mod_eq_zero_of_dvd h)
      repeat' (conv => whnf
               first
                 | (refine Ob.mk (by (first | omega | (simp only [InK]; omega) | exact ⟨by omega, tdivIn (by omega) (by omega)⟩ | exact ⟨by first | omega | (simp only [InK]; omega), by first | omega | (simp only [InK]; omega)⟩)) ?_)
                 | (refine Cases.yes (by (first | assumption | exact decide_eq_true (by first | assumption | omega) | exact congrArg (!·) (decide_eq_false (by first | assumption | omega)) | exact congrArg (!·) (show _ = false by assumption) | rfl)) ?_)
                 | (refine Cases.no (by (first | assumption | exact decide_eq_false (by first | assumption | omega) | exact congrArg (!·) (decide_eq_true (by first | assumption | omega)) | exact congrArg (!·) (show _ = true by assumption) | rfl)) ?_)
                 | (refine Idx.mk ⟨_, rfl, by first | assumption | omega, ?_⟩)
                 | (refine Idx.mk ⟨0, rfl, by omega, ?_⟩)
                 | (refine DrawOb.start ?_)
                 | (refine TryF.fast rfl (by decide +kernel) (by kernel_rfl) ?_)
                 | (refine TryF.next rfl ?_)
                 | (refine TryF.other ?_)
                 | (refine TryG.go rfl (by decide +kernel) (by kernel_rfl) ?_)
                 | (refine TryG.next rfl ?_))
      exact ⟨(b, o2, p + 1), [], ⟨m1, m2, by omega, by omega, hr, m4, m5⟩, by show A + 3 - (p + 1) < A + 3 - p; omega, (by refine ⟨?_, ?_, rfl⟩ <;> repeat (first | exact TmE.nil | exact OwnE.nil | refine TmE.cons (by first | exact AvLe.refl _ | exact AvLe.int (by omega) | exact AvLe.bool (by first | rfl | assumption)) ?_ | refine OwnE.cons rfl (BlkLe.refl _) ?_ | refine OwnE.cons rfl BlkLe.zero ?_))⟩
  · obtain rfl : a = 1 := by omega
    have e := k7.out
    rw [jac_one, Int.mul_one] at e
    repeat' (conv => whnf
             first
               | (refine Ob.mk (by (first | omega | (simp only [InK]; omega) | exact ⟨by omega, tdivIn (by omega) (by omega)⟩ | exact ⟨by first | omega | (simp only [InK]; omega), by first | omega | (simp only [InK]; omega)⟩)) ?_)
               | (refine Cases.yes (by (first | assumption | exact decide_eq_true (by first | assumption | omega) | exact congrArg (!·) (decide_eq_false (by first | assumption | omega)) | exact congrArg (!·) (show _ = false by assumption) | rfl)) ?_)
               | (refine Cases.no (by (first | assumption | exact decide_eq_false (by first | assumption | omega) | exact congrArg (!·) (decide_eq_true (by first | assumption | omega)) | exact congrArg (!·) (show _ = true by assumption) | rfl)) ?_)
               | (refine Idx.mk ⟨_, rfl, by first | assumption | omega, ?_⟩)
               | (refine Idx.mk ⟨0, rfl, by omega, ?_⟩)
               | (refine DrawOb.start ?_)
               | (refine TryF.fast rfl (by decide +kernel) (by kernel_rfl) ?_)
               | (refine TryF.next rfl ?_)
               | (refine TryF.other ?_)
               | (refine TryG.go rfl (by decide +kernel) (by kernel_rfl) ?_)
               | (refine TryG.next rfl ?_))
    refine ⟨⟨_, _, rfl, rfl, AvLe.int ?_⟩⟩
    exact e.symm
/-- the numbers that Psi and lambda may take -/
theorem psi_small {n : Nat} (h1 : 1 ≤ n) (h2 : n ≤ 120) : 1 ≤ psi n ∧ psi n ≤ 400 := by
  have h : allB 121 (fun n => decide (n = 0) || (decide (1 ≤ prodC psiF n) && decide (prodC psiF n ≤ 400))) = true := by decide +kernel
  have := allB_at h (show n < 121 by omega)
  simp only [Bool.or_eq_true, Bool.and_eq_true, decide_eq_true_eq] at this
  rw [psi_C h1 h2]
  exact this.resolve_left (by omega)
theorem lam_small {n f : Nat} (h1 : 1 ≤ n) (h2 : n ≤ 120) : 1 ≤ lam f n ∧ lam f n ≤ 14400 := by
  obtain ⟨a, b⟩ := lam_bd f (n := n) (by omega)
  have : (n : Int) * n ≤ 120 * 120 := Int.mul_le_mul (by omega) (by omega) (by omega) (by omega)
  omega
theorem mul_small {n k : Nat} (h1 : 1 ≤ n) (h2 : n ≤ 120) (hk : 1 ≤ k) (hk2 : k ≤ 24) : 0 ≤ ((k : Int) - 1) * psi n ∧ ((k : Int) - 1) * psi n ≤ 10000 := by
  obtain ⟨a, b⟩ := psi_small h1 h2
  refine ⟨Int.mul_nonneg (by omega) (by omega), ?_⟩
  have : ((k : Int) - 1) * psi n ≤ 23 * 400 := Int.mul_le_mul (by omega) (by omega) (by omega) (by omega)
  omega
set_option maxHeartbeats 8000000 in
set_option maxRecDepth 20000 in
theorem formula_sp (n k f : Nat) (four three : Int) (hn0 : 1 ≤ n) (hn : n ≤ 120) (hf0 : 1 ≤ f) (hf : f ≤ 120) (hfn : f ∣ n) (hk : 2 ≤ k) (hk2 : k ≤ 24) (h1 : -1000000 ≤ four) (h2 : four ≤ 1000000) (h3 : -1000000 ≤ three) (h4 : three ≤ 1000000) : Sp CX 41 [int .i64 n, int .i64 k, int .i64 f, int .i64 four, int .i64 three] (int .i64 ((dim12 n k f four three).tdiv 12)) := by
  refine fn_sp (C := CX) [] [] tysX_ok mixed Tryd.func41 rfl (by kernel_rfl) Tryd.ntmps41 rfl rfl ?_
  have hm := mul_small hn0 hn (show 1 ≤ k by omega) hk2
  have hl := lam_small (f := f) hn0 hn
  have e4 : (k : Int).tmod 4 = ((k % 4 : Nat) : Int) := (Int.ofNat_tmod k 4).symm
  have e3 : (k : Int).tmod 3 = ((k % 3 : Nat) : Int) := (Int.ofNat_tmod k 3).symm
  have hb : ∀ x : Int, -10000000 ≤ x → x ≤ 10000000 → -10000000 ≤ x.tdiv 12 ∧ x.tdiv 12 ≤ 10000000 := fun x a b => tdiv_bd a b
  repeat' (conv => whnf
           first
             | (refine Ob.mk (by (first | omega | (simp only [InK]; omega) | exact ⟨by omega, tdivIn (by omega) (by omega)⟩ | exact ⟨by first | omega | (simp only [InK]; omega), by first | omega | (simp only [InK]; omega)⟩)) ?_)
             | (refine Cases.yes (by (first | assumption | exact decide_eq_true (by first | assumption | omega) | exact congrArg (!·) (decide_eq_false (by first | assumption | omega)) | exact congrArg (!·) (show _ = false by assumption) | rfl)) ?_)
             | (refine Cases.no (by (first | assumption | exact decide_eq_false (by first | assumption | omega) | exact congrArg (!·) (decide_eq_true (by first | assumption | omega)) | exact congrArg (!·) (show _ = true by assumption) | rfl)) ?_)
             | (refine Idx.mk ⟨_, rfl, by first | assumption | omega, ?_⟩)
             | (refine Idx.mk ⟨0, rfl, by omega, ?_⟩)
             | (refine DrawOb.start ?_)
             | (refine TryF.fast rfl (by decide +kernel) (by kernel_rfl) ?_)
             | (refine TryF.next rfl ?_)
             | (refine TryF.other ?_)
             | (refine TryG.go rfl (by decide +kernel) (by kernel_rfl) ?_)
             | (refine TryG.next rfl ?_)
             | (refine Cases.mk (fun hc => ?_) (fun hc => ?_) <;> (try simp only [Bool.not_eq_true', Bool.not_eq_false', decide_eq_true_eq, decide_eq_false_iff_not] at hc))
             | (refine Sp.call (psi21_sp n (by omega) (by omega)) (ArgsLe.refl _) rfl (AvLe.refl _) ?_)
             | (refine Sp.call (rlam_sp n f (by omega) (by omega) (by omega) (by omega) hfn) (ArgsLe.refl _) rfl (AvLe.refl _) ?_))
  all_goals (refine ⟨⟨_, _, rfl, rfl, AvLe.int ?_⟩⟩)
  all_goals (unfold dim12; congr 1; (repeat' split) <;> omega)
end Go.Proofs.YteamlpflgfmieaaDoor
