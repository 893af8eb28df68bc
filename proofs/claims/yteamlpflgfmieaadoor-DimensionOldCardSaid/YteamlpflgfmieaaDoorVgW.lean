/- States in letters: lambda and the formula of the reference, square-free numbers, symbols. -/
import Derived.Test.YteamlpflgfmieaaDoorPkVgU
namespace Go.Proofs.YteamlpflgfmieaaDoor
open Go Go.RowKit Go.VG HP
set_option maxHeartbeats 8000000 in
set_option maxRecDepth 20000 in
theorem rlam_sp (n f : Nat) (hn0 : 1 ≤ n) (hn : n ≤ 1000) (hf0 : 1 ≤ f) (hf : f ≤ 1000) (hfn : f ∣ n) : Sp CX 42 [int .i64 n, int .i64 f] (int .i64 (lam f n)) := by
  have hnn : (n : Int) * n ≤ 1000000 := Int.mul_le_mul (c := 1000) (d := 1000) (by omega) (by omega) (by omega) (by omega)
  have h2 := parN_two (lamF f) (n := n) (by omega)
  refine fn_spec (C := CX) ⟨86, [], []⟩ [] tysX_ok mixed Tryd.func42 rfl (by kernel_rfl) Tryd.ntmps42 (by kernel_rfl) rfl ?_
  repeat' (conv => whnf
           first
             | (refine Ob.mk (by (first | omega | (simp only [InK]; omega) | exact ⟨by omega, tdivIn (by omega) (by omega)⟩ | exact ⟨by first | omega | (simp only [InK]; omega), by first | omega | (simp only [InK]; omega)⟩)) ?_)
             | (refine Cases.yes (by (first | assumption | exact decide_eq_true (by first | assumption | omega) | exact congrArg (!·) (decide_eq_false (by first | assumption | omega)) | exact congrArg (!·) (show _ = false by assumption) | rfl)) ?_)
             | (refine Cases.no (by (first | assumption | exact decide_eq_false (by first | assumption | omega) | exact congrArg (!·) (decide_eq_true (by first | assumption | omega)) | exact congrArg (!·) (show _ = true by assumption) | rfl)) ?_)
             | (refine Idx.mk ⟨_, rfl, by first | assumption | omega, ?_⟩)
             | (refine Idx.mk ⟨0, rfl, by omega, ?_⟩)
             | (refine DrawOb.start ?_)
             | (refine TryF.fast rfl (by decide +kernel) (by kernel_rfl) ?_)
             | (refine TryF.next rfl ?_)
             | (refine TryF.other ?_)
             | (refine TryG.go rfl (by decide +kernel) (by kernel_rfl) ?_)
             | (refine TryG.next rfl ?_))
  refine ⟨⟨Nat, fun p => ⟨[(0, int .i64 n), (1, int .i64 f), (5, int .i64 (parN (lamF f) n p)), (6, int .i64 p)], [], 0⟩, fun p => 2 ≤ p ∧ p ≤ n + 2, fun p => n + 3 - p, ⟨2, [], ⟨Nat.le_refl _, by omega⟩, (by refine ⟨?_, ?_, rfl⟩ <;> repeat (first | exact TmE.nil | exact OwnE.nil | refine TmE.cons (by first | exact AvLe.refl _ | exact AvLe.int (by omega) | exact AvLe.bool (by first | rfl | assumption)) ?_ | refine OwnE.cons rfl (BlkLe.refl _) ?_ | refine OwnE.cons rfl BlkLe.zero ?_))⟩, ?_⟩⟩
  rintro p ⟨hp2, hpn⟩
  by_cases hd : p ≤ n
  · repeat' (conv => whnf
             first
               | (refine Ob.mk (by (first | omega | (simp only [InK]; omega) | exact ⟨by omega, tdivIn (by omega) (by omega)⟩ | exact ⟨by first | omega | (simp only [InK]; omega), by first | omega | (simp only [InK]; omega)⟩)) ?_)
               | (refine Cases.yes (by (first | assumption | exact decide_eq_true (by first | assumption | omega) | exact congrArg (!·) (decide_eq_false (by first | assumption | omega)) | exact congrArg (!·) (show _ = false by assumption) | rfl)) ?_)
               | (refine Cases.no (by (first | assumption | exact decide_eq_false (by first | assumption | omega) | exact congrArg (!·) (decide_eq_true (by first | assumption | omega)) | exact congrArg (!·) (show _ = true by assumption) | rfl)) ?_)
               | (refine Idx.mk ⟨_, rfl, by first | assumption | omega, ?_⟩)
               | (refine Idx.mk ⟨0, rfl, by omega, ?_⟩)
               | (refine DrawOb.start ?_)
               | (refine TryF.fast rfl (by decide +kernel) (by kernel_rfl) ?_)
               | (refine TryF.next rfl ?_)
               | (refine TryF.other ?_)
               | (refine TryG.go rfl (by decide +kernel) (by kernel_rfl) ?_)
               | (refine TryG.next rfl ?_))
    refine ⟨⟨Nat, fun q => ⟨[(0, int .i64 n), (1, int .i64 f), (5, int .i64 (parN (lamF f) n p)), (6, int .i64 p), (7, bool (pq p q)), (8, int .i64 q)], [], 0⟩, fun q => 2 ≤ q ∧ q ≤ p, fun q => p - q, ⟨2, [], ⟨Nat.le_refl _, hp2⟩, (by refine ⟨?_, ?_, rfl⟩ <;> repeat (first | exact TmE.nil | exact OwnE.nil | refine TmE.cons (by first | exact AvLe.refl _ | exact AvLe.int (by omega) | exact AvLe.bool (by first | rfl | assumption)) ?_ | refine OwnE.cons rfl (BlkLe.refl _) ?_ | refine OwnE.cons rfl BlkLe.zero ?_))⟩, ?_⟩⟩
    rintro q ⟨hq2, hqp⟩
    by_cases hq : q < p
    · cases hB : pq p q
      · have hx := pq_no hq2 hB
        repeat' (conv => whnf
                 first
                   | (refine Ob.mk (by (first | omega | (simp only [InK]; omega) | exact ⟨by omega, tdivIn (by omega) (by omega)⟩ | exact ⟨by first | omega | (simp only [InK]; omega), by first | omega | (simp only [InK]; omega)⟩)) ?_)
                   | (refine Cases.yes (by (first | assumption | exact decide_eq_true (by first | assumption | omega) | exact congrArg (!·) (decide_eq_false (by first | assumption | omega)) | exact congrArg (!·) (show _ = false by assumption) | rfl)) ?_)
                   | (refine Cases.no (by (first | assumption | exact decide_eq_false (by first | assumption | omega) | exact congrArg (!·) (decide_eq_true (by first | assumption | omega)) | exact congrArg (!·) (show _ = true by assumption) | rfl)) ?_)
                   | (refine Idx.mk ⟨_, rfl, by first | assumption | omega, ?_⟩)
                   | (refine Idx.mk ⟨0, rfl, by omega, ?_⟩)
                   | (refine DrawOb.start ?_)
                   | (refine TryF.fast rfl (by decide +kernel) (by kernel_rfl) ?_)
                   | (refine TryF.next rfl ?_)
                   | (refine TryF.other ?_)
                   | (refine TryG.go rfl (by decide +kernel) (by kernel_rfl) ?_)
                   | (refine TryG.next rfl ?_))
        exact ⟨q + 1, [], ⟨by omega, hq⟩, by show p - (q + 1) < p - q; omega, (by refine ⟨?_, ?_, rfl⟩ <;> repeat (first | exact TmE.nil | exact OwnE.nil | refine TmE.cons (by first | exact AvLe.refl _ | exact AvLe.int (by omega) | exact AvLe.bool (by first | rfl | assumption)) ?_ | refine OwnE.cons rfl (BlkLe.refl _) ?_ | refine OwnE.cons rfl BlkLe.zero ?_))⟩
      · have hx := pq_next (b := true) hq2 hB
        repeat' (conv => whnf
                 first
                   | (refine Ob.mk (by (first | omega | (simp only [InK]; omega) | exact ⟨by omega, tdivIn (by omega) (by omega)⟩ | exact ⟨by first | omega | (simp only [InK]; omega), by first | omega | (simp only [InK]; omega)⟩)) ?_)
                   | (refine Cases.yes (by (first | assumption | exact decide_eq_true (by first | assumption | omega) | exact congrArg (!·) (decide_eq_false (by first | assumption | omega)) | exact congrArg (!·) (show _ = false by assumption) | rfl)) ?_)
                   | (refine Cases.no (by (first | assumption | exact decide_eq_false (by first | assumption | omega) | exact congrArg (!·) (decide_eq_true (by first | assumption | omega)) | exact congrArg (!·) (show _ = true by assumption) | rfl)) ?_)
                   | (refine Idx.mk ⟨_, rfl, by first | assumption | omega, ?_⟩)
                   | (refine Idx.mk ⟨0, rfl, by omega, ?_⟩)
                   | (refine DrawOb.start ?_)
                   | (refine TryF.fast rfl (by decide +kernel) (by kernel_rfl) ?_)
                   | (refine TryF.next rfl ?_)
                   | (refine TryF.other ?_)
                   | (refine TryG.go rfl (by decide +kernel) (by kernel_rfl) ?_)
                   | (refine TryG.next rfl ?_))
        exact ⟨q + 1, [], ⟨by omega, hq⟩, by show p - (q + 1) < p - q; omega, (by refine ⟨?_, ?_, rfl⟩ <;> repeat (first | exact TmE.nil | exact OwnE.nil | refine TmE.cons (by first | exact AvLe.refl _ | exact AvLe.int (by omega) | exact AvLe.bool (by first | rfl | assumption)) ?_ | refine OwnE.cons rfl (BlkLe.refl _) ?_ | refine OwnE.cons rfl BlkLe.zero ?_))⟩
    · obtain rfl : q = p := by omega
      have em : (n : Int).tmod q = ((n % q : Nat) : Int) := (Int.ofNat_tmod n q).symm
      by_cases hpr : Prm q ∧ q ∣ n
      · have hB : pq q q = true := (pq_prm hp2).2 hpr.1
        have hz : n % q = 0 := Nat.mod_eq_zero_of_dvd hpr.2
        have hst := parN_yes (lamF f) (n := n) (by omega) hpr.1 hpr.2
        have hbd := lam_pre f (n := n) (by omega) (ixN n (q + 1))
        have hb0 := lam_pre f (n := n) (by omega) (ixN n q)
        change 1 ≤ parN (lamF f) n (q + 1) ∧ parN (lamF f) n (q + 1) ≤ _ at hbd
        change 1 ≤ parN (lamF f) n q ∧ parN (lamF f) n q ≤ _ at hb0
        rw [hst] at hbd
        obtain ⟨m1, m2, m3, m4, m5, m6, m7⟩ := facs_bounds (show 0 < n by omega) (mem_mlt (by omega) hpr.1 hpr.2)
        have hpw : ∀ k, k ≤ mlt q n → q ^ k ≤ 1000000 := fun k hk => by
          have := Nat.pow_le_pow_right (show 0 < q by omega) hk
          omega
        have e1 : (mlt q n : Int).tdiv 2 = ((mlt q n / 2 : Nat) : Int) := (Int.ofNat_tdiv _ 2).symm
        have e2 : (mlt q n : Int).tmod 2 = ((mlt q n % 2 : Nat) : Int) := (Int.ofNat_tmod _ 2).symm
        have e3 : ((mlt q n : Int) - 1).tdiv 2 = (((mlt q n - 1) / 2 : Nat) : Int) := by rw [show (mlt q n : Int) - 1 = ((mlt q n - 1 : Nat) : Int) by omega]; exact (Int.ofNat_tdiv _ 2).symm
        have hcle : mlt q f ≤ mlt q n := by
          apply Nat.le_of_not_lt
          intro h
          have h1 := (facs_iff (by omega) _ _).1 (mem_mlt (show 0 < n by omega) hpr.1 hpr.2)
          exact h1.2.2.2 (Nat.dvd_trans (Nat.pow_dvd_pow _ h) (Nat.dvd_trans (mlt_dvd q f) hfn))
        by_cases c1 : mlt q n < 2 * mlt q f
        · have p1 := hpw (mlt q n - mlt q f) (by omega)
          obtain ⟨r, hr⟩ : ∃ r, r = q ^ (mlt q n - mlt q f) := ⟨_, rfl⟩
          have el : lamF f q (mlt q n) = 2 * (r : Int) := by unfold lamF; rw [if_pos c1, Int.natCast_mul, hr]; rfl
          rw [el] at hbd hst
          rw [← hr] at p1
          have HR := Lib.hid hr
          clear hr hpw el m6 m7
          repeat' (conv => whnf
                   first
                     | (refine Ob.mk (by (first | omega | (simp only [InK]; omega) | exact ⟨by omega, tdivIn (by omega) (by omega)⟩ | exact ⟨by first | omega | (simp only [InK]; omega), by first | omega | (simp only [InK]; omega)⟩)) ?_)
                     | (refine Cases.yes (by (first | assumption | exact decide_eq_true (by first | assumption | omega) | exact congrArg (!·) (decide_eq_false (by first | assumption | omega)) | exact congrArg (!·) (show _ = false by assumption) | rfl)) ?_)
                     | (refine Cases.no (by (first | assumption | exact decide_eq_false (by first | assumption | omega) | exact congrArg (!·) (decide_eq_true (by first | assumption | omega)) | exact congrArg (!·) (show _ = true by assumption) | rfl)) ?_)
                     | (refine Idx.mk ⟨_, rfl, by first | assumption | omega, ?_⟩)
                     | (refine Idx.mk ⟨0, rfl, by omega, ?_⟩)
                     | (refine DrawOb.start ?_)
                     | (refine TryF.fast rfl (by decide +kernel) (by kernel_rfl) ?_)
                     | (refine TryF.next rfl ?_)
                     | (refine TryF.other ?_)
                     | (refine TryG.go rfl (by decide +kernel) (by kernel_rfl) ?_)
                     | (refine TryG.next rfl ?_)
                     | (refine Sp.call (rexp_sp n q (by omega) (by omega) (by omega) (by omega)) (ArgsLe.refl _) rfl (AvLe.refl _) ?_)
                     | (refine Sp.call (rexp_sp f q (by omega) (by omega) (by omega) (by omega)) (ArgsLe.refl _) rfl (AvLe.refl _) ?_)
                     | (refine Sp.call (rpow_sp q (mlt q n - mlt q f) r HR (by omega) (by omega) (by omega) (by assumption)) (.cons (.refl _) (.cons (AvLe.int (by omega)) .nil)) rfl (AvLe.refl _) ?_))
          exact ⟨q + 1, [], ⟨by omega, by omega⟩, by show n + 3 - (q + 1) < n + 3 - q; omega, (by refine ⟨?_, ?_, rfl⟩ <;> repeat (first | exact TmE.nil | exact OwnE.nil | refine TmE.cons (by first | exact AvLe.refl _ | exact AvLe.int (by omega) | exact AvLe.bool (by first | rfl | assumption)) ?_ | refine OwnE.cons rfl (BlkLe.refl _) ?_ | refine OwnE.cons rfl BlkLe.zero ?_))⟩
        · by_cases c2 : mlt q n % 2 = 0
          · have p1 := hpw (mlt q n / 2) (by omega)
            have p2 := hpw (mlt q n / 2 - 1) (by omega)
            have hpe : 1 ≤ mlt q n / 2 := by omega
            obtain ⟨r, hr⟩ : ∃ r, r = q ^ (mlt q n / 2) := ⟨_, rfl⟩
            obtain ⟨s, hs⟩ : ∃ s, s = q ^ (mlt q n / 2 - 1) := ⟨_, rfl⟩
            have el : lamF f q (mlt q n) = (r : Int) + (s : Int) := by unfold lamF; rw [if_neg c1, if_pos c2, Int.natCast_add, hr, hs]
            rw [el] at hbd hst
            rw [← hr] at p1
            rw [← hs] at p2
            have HR := Lib.hid hr
            have HS := Lib.hid hs
            clear hr hs hpw el m6 m7
            repeat' (conv => whnf
                     first
                       | (refine Ob.mk (by (first | omega | (simp only [InK]; omega) | exact ⟨by omega, tdivIn (by omega) (by omega)⟩ | exact ⟨by first | omega | (simp only [InK]; omega), by first | omega | (simp only [InK]; omega)⟩)) ?_)
                       | (refine Cases.yes (by (first | assumption | exact decide_eq_true (by first | assumption | omega) | exact congrArg (!·) (decide_eq_false (by first | assumption | omega)) | exact congrArg (!·) (show _ = false by assumption) | rfl)) ?_)
                       | (refine Cases.no (by (first | assumption | exact decide_eq_false (by first | assumption | omega) | exact congrArg (!·) (decide_eq_true (by first | assumption | omega)) | exact congrArg (!·) (show _ = true by assumption) | rfl)) ?_)
                       | (refine Idx.mk ⟨_, rfl, by first | assumption | omega, ?_⟩)
                       | (refine Idx.mk ⟨0, rfl, by omega, ?_⟩)
                       | (refine DrawOb.start ?_)
                       | (refine TryF.fast rfl (by decide +kernel) (by kernel_rfl) ?_)
                       | (refine TryF.next rfl ?_)
                       | (refine TryF.other ?_)
                       | (refine TryG.go rfl (by decide +kernel) (by kernel_rfl) ?_)
                       | (refine TryG.next rfl ?_)
                       | (refine Sp.call (rexp_sp n q (by omega) (by omega) (by omega) (by omega)) (ArgsLe.refl _) rfl (AvLe.refl _) ?_)
                       | (refine Sp.call (rexp_sp f q (by omega) (by omega) (by omega) (by omega)) (ArgsLe.refl _) rfl (AvLe.refl _) ?_)
                       | (refine Sp.call (rpow_sp q (mlt q n / 2) r HR (by omega) (by omega) (by omega) (by assumption)) (.cons (.refl _) (.cons (AvLe.int (by first | assumption | omega)) .nil)) rfl (AvLe.refl _) ?_)
                       | (refine Sp.call (rpow_sp q (mlt q n / 2 - 1) s HS (by omega) (by omega) (by omega) (by assumption)) (.cons (.refl _) (.cons (AvLe.int (by omega)) .nil)) rfl (AvLe.refl _) ?_))
            exact ⟨q + 1, [], ⟨by omega, by omega⟩, by show n + 3 - (q + 1) < n + 3 - q; omega, (by refine ⟨?_, ?_, rfl⟩ <;> repeat (first | exact TmE.nil | exact OwnE.nil | refine TmE.cons (by first | exact AvLe.refl _ | exact AvLe.int (by omega) | exact AvLe.bool (by first | rfl | assumption)) ?_ | refine OwnE.cons rfl (BlkLe.refl _) ?_ | refine OwnE.cons rfl BlkLe.zero ?_))⟩
          · have p1 := hpw ((mlt q n - 1) / 2) (by omega)
            obtain ⟨r, hr⟩ : ∃ r, r = q ^ ((mlt q n - 1) / 2) := ⟨_, rfl⟩
            have el : lamF f q (mlt q n) = 2 * (r : Int) := by unfold lamF; rw [if_neg c1, if_neg c2, Int.natCast_mul, hr]; rfl
            rw [el] at hbd hst
            rw [← hr] at p1
            have HR := Lib.hid hr
            clear hr hpw el m6 m7
            repeat' (conv => whnf
                     first
                       | (refine Ob.mk (by (first | omega | (simp only [InK]; omega) | exact ⟨by omega, tdivIn (by omega) (by omega)⟩ | exact ⟨by first | omega | (simp only [InK]; omega), by first | omega | (simp only [InK]; omega)⟩)) ?_)
                       | (refine Cases.yes (by (first | assumption | exact decide_eq_true (by first | assumption | omega) | exact congrArg (!·) (decide_eq_false (by first | assumption | omega)) | exact congrArg (!·) (show _ = false by assumption) | rfl)) ?_)
                       | (refine Cases.no (by (first | assumption | exact decide_eq_false (by first | assumption | omega) | exact congrArg (!·) (decide_eq_true (by first | assumption | omega)) | exact congrArg (!·) (show _ = true by assumption) | rfl)) ?_)
                       | (refine Idx.mk ⟨_, rfl, by first | assumption | omega, ?_⟩)
                       | (refine Idx.mk ⟨0, rfl, by omega, ?_⟩)
                       | (refine DrawOb.start ?_)
                       | (refine TryF.fast rfl (by decide +kernel) (by kernel_rfl) ?_)
                       | (refine TryF.next rfl ?_)
                       | (refine TryF.other ?_)
                       | (refine TryG.go rfl (by decide +kernel) (by kernel_rfl) ?_)
                       | (refine TryG.next rfl ?_)
                       | (refine Sp.call (rexp_sp n q (by omega) (by omega) (by omega) (by omega)) (ArgsLe.refl _) rfl (AvLe.refl _) ?_)
                       | (refine Sp.call (rexp_sp f q (by omega) (by omega) (by omega) (by omega)) (ArgsLe.refl _) rfl (AvLe.refl _) ?_)
                       | (refine Sp.call (rpow_sp q ((mlt q n - 1) / 2) r HR (by omega) (by omega) (by omega) (by assumption)) (.cons (.refl _) (.cons (AvLe.int (by first | assumption | omega)) .nil)) rfl (AvLe.refl _) ?_))
            exact ⟨q + 1, [], ⟨by omega, by omega⟩, by show n + 3 - (q + 1) < n + 3 - q; omega, (by refine ⟨?_, ?_, rfl⟩ <;> repeat (first | exact TmE.nil | exact OwnE.nil | refine TmE.cons (by first | exact AvLe.refl _ | exact AvLe.int (by omega) | exact AvLe.bool (by first | rfl | assumption)) ?_ | refine OwnE.cons rfl (BlkLe.refl _) ?_ | refine OwnE.cons rfl BlkLe.zero ?_))⟩
      · have hs := parN_no (lamF f) (n := n) (by omega) hpr
        cases hB : pq q q
        · repeat' (conv => whnf
                   first
                     | (refine Ob.mk (by (first | omega | (simp only [InK]; omega) | exact ⟨by omega, tdivIn (by omega) (by omega)⟩ | exact ⟨by first | omega | (simp only [InK]; omega), by first | omega | (simp only [InK]; omega)⟩)) ?_)
                     | (refine Cases.yes (by (first | assumption | exact decide_eq_true (by first | assumption | omega) | exact congrArg (!·) (decide_eq_false (by first | assumption | omega)) | exact congrArg (!·) (show _ = false by assumption) | rfl)) ?_)
                     | (refine Cases.no (by (first | assumption | exact decide_eq_false (by first | assumption | omega) | exact congrArg (!·) (decide_eq_true (by first | assumption | omega)) | exact congrArg (!·) (show _ = true by assumption) | rfl)) ?_)
                     | (refine Idx.mk ⟨_, rfl, by first | assumption | omega, ?_⟩)
                     | (refine Idx.mk ⟨0, rfl, by omega, ?_⟩)
                     | (refine DrawOb.start ?_)
                     | (refine TryF.fast rfl (by decide +kernel) (by kernel_rfl) ?_)
                     | (refine TryF.next rfl ?_)
                     | (refine TryF.other ?_)
                     | (refine TryG.go rfl (by decide +kernel) (by kernel_rfl) ?_)
                     | (refine TryG.next rfl ?_))
          exact ⟨q + 1, [], ⟨by omega, by omega⟩, by show n + 3 - (q + 1) < n + 3 - q; omega, (by refine ⟨?_, ?_, rfl⟩ <;> repeat (first | exact TmE.nil | exact OwnE.nil | refine TmE.cons (by first | exact AvLe.refl _ | exact AvLe.int (by omega) | exact AvLe.bool (by first | rfl | assumption)) ?_ | refine OwnE.cons rfl (BlkLe.refl _) ?_ | refine OwnE.cons rfl BlkLe.zero ?_))⟩
        · have hz : n % q ≠ 0 := fun h => hpr ⟨(pq_prm hp2).1 hB, Nat.dvd_of_mod_eq_zero h⟩
          repeat' (conv => whnf
                   first
                     | (refine Ob.mk (by (first | omega | (simp only [InK]; omega) | exact ⟨by omega, tdivIn (by omega) (by omega)⟩ | exact ⟨by first | omega | (simp only [InK]; omega), by first | omega | (simp only [InK]; omega)⟩)) ?_)
                     | (refine Cases.yes (by (first | assumption | exact decide_eq_true (by first | assumption | omega) | exact congrArg (!·) (decide_eq_false (by first | assumption | omega)) | exact congrArg (!·) (show _ = false by assumption) | rfl)) ?_)
                     | (refine Cases.no (by (first | assumption | exact decide_eq_false (by first | assumption | omega) | exact congrArg (!·) (decide_eq_true (by first | assumption | omega)) | exact congrArg (!·) (show _ = true by assumption) | rfl)) ?_)
                     | (refine Idx.mk ⟨_, rfl, by first | assumption | omega, ?_⟩)
                     | (refine Idx.mk ⟨0, rfl, by omega, ?_⟩)
                     | (refine DrawOb.start ?_)
                     | (refine TryF.fast rfl (by decide +kernel) (by kernel_rfl) ?_)
                     | (refine TryF.next rfl ?_)
                     | (refine TryF.other ?_)
                     | (refine TryG.go rfl (by decide +kernel) (by kernel_rfl) ?_)
                     | (refine TryG.next rfl ?_))
          exact ⟨q + 1, [], ⟨by omega, by omega⟩, by show n + 3 - (q + 1) < n + 3 - q; omega, (by refine ⟨?_, ?_, rfl⟩ <;> repeat (first | exact TmE.nil | exact OwnE.nil | refine TmE.cons (by first | exact AvLe.refl _ | exact AvLe.int (by omega) | exact AvLe.bool (by first | rfl | assumption)) ?_ | refine OwnE.cons rfl (BlkLe.refl _) ?_ | refine OwnE.cons rfl BlkLe.zero ?_))⟩
  · have he := parN_end (lamF f) (n := n) (k := p) (by omega) (by omega)
    repeat' (conv => whnf
             first
               | (refine Ob.mk (by (first | omega | (simp only [InK]; omega) | exact ⟨by omega, tdivIn (by omega) (by omega)⟩ | exact ⟨by first | omega | (simp only [InK]; omega), by first | omega | (simp only [InK]; omega)⟩)) ?_)
               | (refine Cases.yes (by (first | assumption | exact decide_eq_true (by first | assumption | omega) | exact congrArg (!·) (decide_eq_false (by first | assumption | omega)) | exact congrArg (!·) (show _ = false by assumption) | rfl)) ?_)
               | (refine Cases.no (by (first | assumption | exact decide_eq_false (by first | assumption | omega) | exact congrArg (!·) (decide_eq_true (by first | assumption | omega)) | exact congrArg (!·) (show _ = true by assumption) | rfl)) ?_)
               | (refine Idx.mk ⟨_, rfl, by first | assumption | omega, ?_⟩)
               | (refine Idx.mk ⟨0, rfl, by omega, ?_⟩)
               | (refine DrawOb.start ?_)
               | (refine TryF.fast rfl (by decide +kernel) (by kernel_rfl) ?_)
               | (refine TryF.next rfl ?_)
               | (refine TryF.other ?_)
               | (refine TryG.go rfl (by decide +kernel) (by kernel_rfl) ?_)
               | (refine TryG.next rfl ?_))
    refine ⟨⟨_, _, rfl, rfl, AvLe.int ?_⟩⟩
    exact he
end Go.Proofs.YteamlpflgfmieaaDoor
