/- Own texts joined: DmE, DmF, DmG. -/
import Derived.Test.YteamlpflgfmieaaDoorDmD
/- The sums of the reference over the divisors. -/
namespace Go.Proofs.YteamlpflgfmieaaDoor
open Go Go.RowKit Go.VG HP
theorem blkLe_app {k n : Nat} {e : TypeId} {u : Bool} {α : Type} {mk : α → Nat → Leaf} {Z Y : Nat → α} (h : Y 0 = Z n) (hp : ∀ z j, pureL (mk z j) = true) : BlkLe (.rw k e u α mk (appZ α Z Y n) (n + 1)) (.rw k e u α mk Z (n + 1)) :=
  .rw (fun i j hi _ => by
    unfold appZ
    split
    · exact .refl _
    · obtain rfl : i = n := by omega
      rw [Nat.sub_self, h]
      exact .refl _) (fun _ _ _ _ => hp _ _)
set_option maxHeartbeats 2000000 in
theorem divisors20_sp (N : Nat) (Z : Nat → Nat) (len : Nat) (hZ : ∀ i x, (dvs N)[i]? = some x → Z i = x) (hl : len = (dvs N).length) (hN0 : 1 ≤ N) (hN : N ≤ 1000000) : Sp CX 17 [int .i64 N] (.v (.c (.sl 1 Nat (fun z _ => ix z) Z len))) := by
  refine fn_sp (C := CX) [] [0] tysX_ok mixed Tryd.func17 rfl (by kernel_rfl) Tryd.ntmps17 rfl rfl ?_
  repeat' (conv => whnf
           first
             | (refine Ob.mk (by (first | omega | (simp only [InK]; omega) | exact ⟨by omega, tdivIn (by omega) (by omega)⟩ | exact ⟨by first | omega | (simp only [InK]; omega), by first | omega | (simp only [InK]; omega)⟩)) ?_)
             | (refine Cases.yes (by (first | assumption | exact decide_eq_true (by first | assumption | omega) | exact congrArg (!·) (decide_eq_false (by first | assumption | omega)) | exact congrArg (!·) (show _ = false by assumption) | rfl)) ?_)
             | (refine Cases.no (by (first | assumption | exact decide_eq_false (by first | assumption | omega) | exact congrArg (!·) (decide_eq_true (by first | assumption | omega)) | exact congrArg (!·) (show _ = true by assumption) | rfl)) ?_)
             | (refine Idx.mk ⟨_, rfl, by first | assumption | omega, ?_⟩)
             | (refine Idx.mk ⟨0, rfl, by omega, ?_⟩)
             | (refine DrawOb.start ?_)
             | (refine TryF.fast rfl (by decide +kernel) (by kernel_rfl) ?_)
             | (refine TryF.next rfl ?_)
             | (refine TryF.other ?_)
             | (refine TryG.go rfl (by decide +kernel) (by kernel_rfl) ?_)
             | (refine TryG.next rfl ?_))
  refine ⟨⟨Nat × Nat, fun (d, m) => ⟨[(0, int .i64 N), (3, .v (.c (.row 0))), (4, int .i64 d)], [(0, .rw 1 3 false Nat (fun z _ => ix z) Z m)], 1⟩, fun (d, m) => 1 ≤ d ∧ d ≤ N + 1 ∧ m = cntD N d, fun (d, _) => N + 1 - d, ⟨(1, 0), [.n 3 0 1 3], ⟨Nat.le_refl _, by omega, (cntD_one N).symm⟩, (by refine ⟨?_, ?_, rfl⟩ <;> repeat (first | exact TmE.nil | exact OwnE.nil | refine TmE.cons (by first | exact AvLe.refl _ | exact AvLe.int (by omega) | exact AvLe.bool (by first | rfl | assumption)) ?_ | refine OwnE.cons rfl (BlkLe.refl _) ?_ | refine OwnE.cons rfl BlkLe.zero ?_))⟩, ?_⟩⟩
  rintro ⟨d, m⟩ ⟨h1, h2, hm⟩
  have hle := cntD_le N d
  rw [← hm] at hle
  by_cases hd : d ≤ N
  · have em : (N : Int).tmod d = ((N % d : Nat) : Int) := (Int.ofNat_tmod N d).symm
    by_cases hz : N % d = 0
    · have hi : isDv N d = true := isDv_iff.2 ⟨h1, Nat.dvd_of_mod_eq_zero hz⟩
      have hc := cntD_yes hi
      have hat := hZ _ _ (cntD_at hd hi)
      rw [← hm] at hc hat
      repeat' (conv => whnf
               first
                 | (refine Ob.mk (by (first | omega | (simp only [InK]; omega) | exact ⟨by omega, tdivIn (by omega) (by omega)⟩ | exact ⟨by first | omega | (simp only [InK]; omega), by first | omega | (simp only [InK]; omega)⟩)) ?_)
                 | (refine Cases.yes (by (first | assumption | exact decide_eq_true (by first | assumption | omega) | exact congrArg (!·) (decide_eq_false (by first | assumption | omega)) | exact congrArg (!·) (show _ = false by assumption) | rfl)) ?_)
                 | (refine Cases.no (by (first | assumption | exact decide_eq_false (by first | assumption | omega) | exact congrArg (!·) (decide_eq_true (by first | assumption | omega)) | exact congrArg (!·) (show _ = true by assumption) | rfl)) ?_)
                 | (refine Idx.mk ⟨_, rfl, by first | assumption | omega, ?_⟩)
                 | (refine Idx.mk ⟨0, rfl, by omega, ?_⟩)
                 | (refine DrawOb.start ?_)
                 | (refine TryF.fast rfl (by decide +kernel) (by kernel_rfl) ?_)
                 | (refine TryF.next rfl ?_)
                 | (refine TryF.other ?_)
                 | (refine TryG.go rfl (by decide +kernel) (by kernel_rfl) ?_)
                 | (refine TryG.next rfl ?_))
      refine ⟨⟨fun _ => d, fun i j hi hj => ?_, fun _ _ _ _ => rfl, ?_⟩⟩
      · obtain rfl : i = 0 := by omega
        obtain rfl : j = 0 := by omega
        exact .refl _
      repeat' (conv => whnf
               first
                 | (refine Ob.mk (by (first | omega | (simp only [InK]; omega) | exact ⟨by omega, tdivIn (by omega) (by omega)⟩ | exact ⟨by first | omega | (simp only [InK]; omega), by first | omega | (simp only [InK]; omega)⟩)) ?_)
                 | (refine Cases.yes (by (first | assumption | exact decide_eq_true (by first | assumption | omega) | exact congrArg (!·) (decide_eq_false (by first | assumption | omega)) | exact congrArg (!·) (show _ = false by assumption) | rfl)) ?_)
                 | (refine Cases.no (by (first | assumption | exact decide_eq_false (by first | assumption | omega) | exact congrArg (!·) (decide_eq_true (by first | assumption | omega)) | exact congrArg (!·) (show _ = true by assumption) | rfl)) ?_)
                 | (refine Idx.mk ⟨_, rfl, by first | assumption | omega, ?_⟩)
                 | (refine Idx.mk ⟨0, rfl, by omega, ?_⟩)
                 | (refine DrawOb.start ?_)
                 | (refine TryF.fast rfl (by decide +kernel) (by kernel_rfl) ?_)
                 | (refine TryF.next rfl ?_)
                 | (refine TryF.other ?_)
                 | (refine TryG.go rfl (by decide +kernel) (by kernel_rfl) ?_)
                 | (refine TryG.next rfl ?_))
      exact ⟨(d + 1, m + 1), [.s 0 1], ⟨by omega, by omega, hc.symm⟩, by show N + 1 - (d + 1) < N + 1 - d; omega, by
        refine ⟨?_, .cons rfl (blkLe_app hat.symm fun _ _ => rfl) .nil, rfl⟩
        repeat (first | exact TmE.nil | refine TmE.cons (by first | exact AvLe.refl _ | exact AvLe.int (by omega)) ?_)⟩
    · have hi : isDv N d = false := by
        rw [Bool.eq_false_iff]
        intro h
        exact hz (Nat.mod_eq_zero_of_dvd (isDv_iff.1 h).2)
      have hc := cntD_no hi
      repeat' (conv => whnf
               first
                 | (refine Ob.mk (by (first | omega | (simp only [InK]; omega) | exact ⟨by omega, tdivIn (by omega) (by omega)⟩ | exact ⟨by first | omega | (simp only [InK]; omega), by first | omega | (simp only [InK]; omega)⟩)) ?_)
                 | (refine Cases.yes (by (first | assumption | exact decide_eq_true (by first | assumption | omega) | exact congrArg (!·) (decide_eq_false (by first | assumption | omega)) | exact congrArg (!·) (show _ = false by assumption) | rfl)) ?_)
                 | (refine Cases.no (by (first | assumption | exact decide_eq_false (by first | assumption | omega) | exact congrArg (!·) (decide_eq_true (by first | assumption | omega)) | exact congrArg (!·) (show _ = true by assumption) | rfl)) ?_)
                 | (refine Idx.mk ⟨_, rfl, by first | assumption | omega, ?_⟩)
                 | (refine Idx.mk ⟨0, rfl, by omega, ?_⟩)
                 | (refine DrawOb.start ?_)
                 | (refine TryF.fast rfl (by decide +kernel) (by kernel_rfl) ?_)
                 | (refine TryF.next rfl ?_)
                 | (refine TryF.other ?_)
                 | (refine TryG.go rfl (by decide +kernel) (by kernel_rfl) ?_)
                 | (refine TryG.next rfl ?_))
      exact ⟨(d + 1, m), [], ⟨by omega, by omega, hm.trans hc.symm⟩, by show N + 1 - (d + 1) < N + 1 - d; omega, (by refine ⟨?_, ?_, rfl⟩ <;> repeat (first | exact TmE.nil | exact OwnE.nil | refine TmE.cons (by first | exact AvLe.refl _ | exact AvLe.int (by omega) | exact AvLe.bool (by first | rfl | assumption)) ?_ | refine OwnE.cons rfl (BlkLe.refl _) ?_ | refine OwnE.cons rfl BlkLe.zero ?_))⟩
  · obtain rfl : d = N + 1 := by omega
    have he := hm.trans ((cntD_end N).trans hl.symm)
    subst he
    repeat' (conv => whnf
             first
               | (refine Ob.mk (by (first | omega | (simp only [InK]; omega) | exact ⟨by omega, tdivIn (by omega) (by omega)⟩ | exact ⟨by first | omega | (simp only [InK]; omega), by first | omega | (simp only [InK]; omega)⟩)) ?_)
               | (refine Cases.yes (by (first | assumption | exact decide_eq_true (by first | assumption | omega) | exact congrArg (!·) (decide_eq_false (by first | assumption | omega)) | exact congrArg (!·) (show _ = false by assumption) | rfl)) ?_)
               | (refine Cases.no (by (first | assumption | exact decide_eq_false (by first | assumption | omega) | exact congrArg (!·) (decide_eq_true (by first | assumption | omega)) | exact congrArg (!·) (show _ = true by assumption) | rfl)) ?_)
               | (refine Idx.mk ⟨_, rfl, by first | assumption | omega, ?_⟩)
               | (refine Idx.mk ⟨0, rfl, by omega, ?_⟩)
               | (refine DrawOb.start ?_)
               | (refine TryF.fast rfl (by decide +kernel) (by kernel_rfl) ?_)
               | (refine TryF.next rfl ?_)
               | (refine TryF.other ?_)
               | (refine TryG.go rfl (by decide +kernel) (by kernel_rfl) ?_)
               | (refine TryG.next rfl ?_))
    refine ⟨⟨_, _, rfl, rfl, ?_⟩⟩
    exact AvLe.refl _
end Go.Proofs.YteamlpflgfmieaaDoor

/- The reference: beta, cusp forms, Eisenstein series, Sturm's bound. -/
namespace Go.Proofs.YteamlpflgfmieaaDoor
open Go Go.RowKit Go.VG HP
set_option maxHeartbeats 4000000 in
theorem beta31_sp (N : Nat) (hN0 : 1 ≤ N) (hN : N ≤ 120) : Sp CX 43 [int .i64 N] (int .i64 (bet N)) := by
  refine fn_sp (C := CX) [] [] tysX_ok mixed Tryd.func43 rfl (by kernel_rfl) Tryd.ntmps43 rfl rfl ?_
  repeat' (conv => whnf
           first
             | (refine Ob.mk (by (first | omega | (simp only [InK]; omega) | exact ⟨by omega, tdivIn (by omega) (by omega)⟩ | exact ⟨by first | omega | (simp only [InK]; omega), by first | omega | (simp only [InK]; omega)⟩)) ?_)
             | (refine Cases.yes (by (first | assumption | exact decide_eq_true (by first | assumption | omega) | exact congrArg (!·) (decide_eq_false (by first | assumption | omega)) | exact congrArg (!·) (show _ = false by assumption) | rfl)) ?_)
             | (refine Cases.no (by (first | assumption | exact decide_eq_false (by first | assumption | omega) | exact congrArg (!·) (decide_eq_true (by first | assumption | omega)) | exact congrArg (!·) (show _ = true by assumption) | rfl)) ?_)
             | (refine Idx.mk ⟨_, rfl, by first | assumption | omega, ?_⟩)
             | (refine Idx.mk ⟨0, rfl, by omega, ?_⟩)
             | (refine DrawOb.start ?_)
             | (refine TryF.fast rfl (by decide +kernel) (by kernel_rfl) ?_)
             | (refine TryF.next rfl ?_)
             | (refine TryF.other ?_)
             | (refine TryG.go rfl (by decide +kernel) (by kernel_rfl) ?_)
             | (refine TryG.next rfl ?_))
  refine ⟨⟨Nat × Int × Nat, fun (n, o, p) => ⟨[(0, int .i64 n), (3, int .i64 o), (4, int .i64 p)], [], 0⟩, fun (n, o, p) => 0 < n ∧ n ≤ N ∧ 2 ≤ p ∧ p ≤ N + 2 ∧ Rough p n ∧ (-120 ≤ o ∧ o ≤ 120) ∧ Hid (o.natAbs * n ≤ N) ∧ Hid (bet N = o * bet n), fun (_, _, p) => N + 3 - p, ⟨(N, 1, 2), [], ⟨hN0, Nat.le_refl _, Nat.le_refl _, by omega, rough_two N, by omega, show 1 * N ≤ N by omega, (Int.one_mul _).symm⟩, (by refine ⟨?_, ?_, rfl⟩ <;> repeat (first | exact TmE.nil | exact OwnE.nil | refine TmE.cons (by first | exact AvLe.refl _ | exact AvLe.int (by omega) | exact AvLe.bool (by first | rfl | assumption)) ?_ | refine OwnE.cons rfl (BlkLe.refl _) ?_ | refine OwnE.cons rfl BlkLe.zero ?_))⟩, ?_⟩⟩
  rintro ⟨n, o, p⟩ ⟨k1, k2, k3, k4, k5, k6, k7, k8⟩
  by_cases ha : 1 < n
  · have hle : p ≤ n := rough_le (by omega) k5
    have hspos := strip_pos p n k1
    have hsle : strip p n ≤ n := Nat.le_of_dvd k1 (strip_dvd p n)
    have hpd := mlt_dvd p n
    have hple := Nat.le_of_dvd k1 hpd
    have hppos : 0 < p ^ mlt p n := Nat.pow_pos (by omega)
    have hmul := strip_mul p n
    have hml : mlt p n ≤ n := by
      have := Nat.lt_pow_self (n := mlt p n) (show 1 < p by omega)
      omega
    have hrough : Rough (p + 1) (strip p n) := by
      by_cases hd : p ∣ n
      · exact rough_next (rough_dvd k5 (strip_dvd p n)) (strip_not k3 k1)
      · rw [strip_no fun h => hd (Nat.dvd_of_mod_eq_zero h)]
        exact rough_next k5 hd
    have hbet : bet n = (if mlt p n = 0 then 1 else betF p (mlt p n)) * bet (strip p n) := by
      by_cases hd : p ∣ n
      · have := mlt_pos k3 k1 hd
        rw [if_neg (by omega)]
        exact bet_step k3 k1 k5 hd
      · have h0 : n % p ≠ 0 := fun h => hd (Nat.dvd_of_mod_eq_zero h)
        rw [if_pos (mlt_no h0), strip_no h0, Int.one_mul]
    have hstep : ∀ o', o' = o * (if mlt p n = 0 then 1 else betF p (mlt p n)) → bet N = o' * bet (strip p n) := fun o' h => by rw [k8.out, hbet, h, Int.mul_assoc]
    obtain ⟨r, hr⟩ : ∃ r, r = p ^ mlt p n := ⟨_, rfl⟩
    have hq : (n : Int).tdiv r = (strip p n : Nat) := by rw [hr]; exact (Int.ofNat_tdiv n _).symm
    have hz : mlt p n = 1 → r = p := fun h => by rw [hr, h, Nat.pow_one]
    rw [← hr] at hple hppos hmul
    have HR := Lib.hid hr
    obtain ⟨e, he⟩ : ∃ e, e = mlt p n := ⟨_, rfl⟩
    have hk7 : o.natAbs * strip p n ≤ N := Nat.le_trans (Nat.mul_le_mul_left _ hsle) k7.out
    by_cases c1 : mlt p n = 1
    · have hs := hstep (o * -2) (by rw [if_neg (by omega), c1]; rfl)
      have hb : (o * -2).natAbs * strip p n ≤ N := by
        rw [Int.natAbs_mul, show (-2 : Int).natAbs = 2 from rfl, Nat.mul_assoc]
        refine Nat.le_trans (Nat.mul_le_mul_left _ ?_) k7.out
        have : 2 * strip p n ≤ r * strip p n := Nat.mul_le_mul_right _ (by rw [hz c1]; omega)
        omega
      have hb2 : -120 ≤ o * -2 ∧ o * -2 ≤ 120 := by
        have := Nat.mul_le_mul_left (o * -2).natAbs hspos
        omega
      have HB := Lib.hid hb
      have HS := Lib.hid hs
      clear hb hs hk7 hz hr hstep hbet hpd he hmul
      repeat' (conv => whnf
               first
                 | (refine Ob.mk (by (first | omega | (simp only [InK]; omega) | exact ⟨by omega, tdivIn (by omega) (by omega)⟩ | exact ⟨by first | omega | (simp only [InK]; omega), by first | omega | (simp only [InK]; omega)⟩)) ?_)
                 | (refine Cases.yes (by (first | assumption | exact decide_eq_true (by first | assumption | omega) | exact congrArg (!·) (decide_eq_false (by first | assumption | omega)) | exact congrArg (!·) (show _ = false by assumption) | rfl)) ?_)
                 | (refine Cases.no (by (first | assumption | exact decide_eq_false (by first | assumption | omega) | exact congrArg (!·) (decide_eq_true (by first | assumption | omega)) | exact congrArg (!·) (show _ = true by assumption) | rfl)) ?_)
                 | (refine Idx.mk ⟨_, rfl, by first | assumption | omega, ?_⟩)
                 | (refine Idx.mk ⟨0, rfl, by omega, ?_⟩)
                 | (refine DrawOb.start ?_)
                 | (refine TryF.fast rfl (by decide +kernel) (by kernel_rfl) ?_)
                 | (refine TryF.next rfl ?_)
                 | (refine TryF.other ?_)
                 | (refine TryG.go rfl (by decide +kernel) (by kernel_rfl) ?_)
                 | (refine TryG.next rfl ?_)
                 | (refine Sp.call (rexp_sp n p (by omega) (by omega) (by omega) (by omega)) (ArgsLe.refl _) rfl (AvLe.refl _) ?_)
                 | (refine Sp.call (rpow_sp p (mlt p n) r HR (by omega) (by omega) (by omega) (by omega)) (ArgsLe.refl _) rfl (AvLe.refl _) ?_))
      exact ⟨(strip p n, o * -2, p + 1), [], ⟨hspos, by omega, by omega, by omega, hrough, hb2, HB, HS⟩, by show N + 3 - (p + 1) < N + 3 - p; omega, (by refine ⟨?_, ?_, rfl⟩ <;> repeat (first | exact TmE.nil | exact OwnE.nil | refine TmE.cons (by first | exact AvLe.refl _ | exact AvLe.int (by omega) | exact AvLe.bool (by first | rfl | assumption)) ?_ | refine OwnE.cons rfl (BlkLe.refl _) ?_ | refine OwnE.cons rfl BlkLe.zero ?_))⟩
    · by_cases c2 : 2 < mlt p n
      · have hz0 : bet N = 0 := by
          rw [k8.out, hbet, if_neg (by omega)]
          unfold betF
          rw [if_neg c1, if_neg (by omega), Int.zero_mul, Int.mul_zero]
        clear hk7 hz hr hstep hbet hpd he hmul
        repeat' (conv => whnf
                 first
                   | (refine Ob.mk (by (first | omega | (simp only [InK]; omega) | exact ⟨by omega, tdivIn (by omega) (by omega)⟩ | exact ⟨by first | omega | (simp only [InK]; omega), by first | omega | (simp only [InK]; omega)⟩)) ?_)
                   | (refine Cases.yes (by (first | assumption | exact decide_eq_true (by first | assumption | omega) | exact congrArg (!·) (decide_eq_false (by first | assumption | omega)) | exact congrArg (!·) (show _ = false by assumption) | rfl)) ?_)
                   | (refine Cases.no (by (first | assumption | exact decide_eq_false (by first | assumption | omega) | exact congrArg (!·) (decide_eq_true (by first | assumption | omega)) | exact congrArg (!·) (show _ = true by assumption) | rfl)) ?_)
                   | (refine Idx.mk ⟨_, rfl, by first | assumption | omega, ?_⟩)
                   | (refine Idx.mk ⟨0, rfl, by omega, ?_⟩)
                   | (refine DrawOb.start ?_)
                   | (refine TryF.fast rfl (by decide +kernel) (by kernel_rfl) ?_)
                   | (refine TryF.next rfl ?_)
                   | (refine TryF.other ?_)
                   | (refine TryG.go rfl (by decide +kernel) (by kernel_rfl) ?_)
                   | (refine TryG.next rfl ?_)
                   | (refine Sp.call (rexp_sp n p (by omega) (by omega) (by omega) (by omega)) (ArgsLe.refl _) rfl (AvLe.refl _) ?_))
        refine ⟨⟨_, _, rfl, rfl, AvLe.int ?_⟩⟩
        exact hz0.symm
      · have hs := hstep o (by
          split
          · rw [Int.mul_one]
          · unfold betF
            rw [if_neg c1, if_pos (by omega), Int.mul_one])
        have HB := Lib.hid hk7
        have HS := Lib.hid hs
        clear hs hk7 hz hr hstep hbet hpd he hmul
        repeat' (conv => whnf
                 first
                   | (refine Ob.mk (by (first | omega | (simp only [InK]; omega) | exact ⟨by omega, tdivIn (by omega) (by omega)⟩ | exact ⟨by first | omega | (simp only [InK]; omega), by first | omega | (simp only [InK]; omega)⟩)) ?_)
                   | (refine Cases.yes (by (first | assumption | exact decide_eq_true (by first | assumption | omega) | exact congrArg (!·) (decide_eq_false (by first | assumption | omega)) | exact congrArg (!·) (show _ = false by assumption) | rfl)) ?_)
                   | (refine Cases.no (by (first | assumption | exact decide_eq_false (by first | assumption | omega) | exact congrArg (!·) (decide_eq_true (by first | assumption | omega)) | exact congrArg (!·) (show _ = true by assumption) | rfl)) ?_)
                   | (refine Idx.mk ⟨_, rfl, by first | assumption | omega, ?_⟩)
                   | (refine Idx.mk ⟨0, rfl, by omega, ?_⟩)
                   | (refine DrawOb.start ?_)
                   | (refine TryF.fast rfl (by decide +kernel) (by kernel_rfl) ?_)
                   | (refine TryF.next rfl ?_)
                   | (refine TryF.other ?_)
                   | (refine TryG.go rfl (by decide +kernel) (by kernel_rfl) ?_)
                   | (refine TryG.next rfl ?_)
                   | (refine Sp.call (rexp_sp n p (by omega) (by omega) (by omega) (by omega)) (ArgsLe.refl _) rfl (AvLe.refl _) ?_)
                   | (refine Sp.call (rpow_sp p (mlt p n) r HR (by omega) (by omega) (by omega) (by omega)) (ArgsLe.refl _) rfl (AvLe.refl _) ?_))
        exact ⟨(strip p n, o, p + 1), [], ⟨hspos, by omega, by omega, by omega, hrough, k6, HB, HS⟩, by show N + 3 - (p + 1) < N + 3 - p; omega, (by refine ⟨?_, ?_, rfl⟩ <;> repeat (first | exact TmE.nil | exact OwnE.nil | refine TmE.cons (by first | exact AvLe.refl _ | exact AvLe.int (by omega) | exact AvLe.bool (by first | rfl | assumption)) ?_ | refine OwnE.cons rfl (BlkLe.refl _) ?_ | refine OwnE.cons rfl BlkLe.zero ?_))⟩
  · have e := k8.out
    rw [bet_one (show n ≤ 1 by omega), Int.mul_one] at e
    repeat' (conv => whnf
             first
               | (refine Ob.mk (by (first | omega | (simp only [InK]; omega) | exact ⟨by omega, tdivIn (by omega) (by omega)⟩ | exact ⟨by first | omega | (simp only [InK]; omega), by first | omega | (simp only [InK]; omega)⟩)) ?_)
               | (refine Cases.yes (by (first | assumption | exact decide_eq_true (by first | assumption | omega) | exact congrArg (!·) (decide_eq_false (by first | assumption | omega)) | exact congrArg (!·) (show _ = false by assumption) | rfl)) ?_)
               | (refine Cases.no (by (first | assumption | exact decide_eq_false (by first | assumption | omega) | exact congrArg (!·) (decide_eq_true (by first | assumption | omega)) | exact congrArg (!·) (show _ = true by assumption) | rfl)) ?_)
               | (refine Idx.mk ⟨_, rfl, by first | assumption | omega, ?_⟩)
               | (refine Idx.mk ⟨0, rfl, by omega, ?_⟩)
               | (refine DrawOb.start ?_)
               | (refine TryF.fast rfl (by decide +kernel) (by kernel_rfl) ?_)
               | (refine TryF.next rfl ?_)
               | (refine TryF.other ?_)
               | (refine TryG.go rfl (by decide +kernel) (by kernel_rfl) ?_)
               | (refine TryG.next rfl ?_))
    refine ⟨⟨_, _, rfl, rfl, AvLe.int ?_⟩⟩
    exact e.symm
set_option maxHeartbeats 4000000 in
theorem cuspr_sp (n k : Nat) (D : Int) (hn0 : 1 ≤ n) (hn : n ≤ 120) (h0 : D ≠ 0) (hD : -120 ≤ D) (hD2 : D ≤ 120) (hfn : D.natAbs ∣ n) (hk : 2 ≤ k) (hk2 : k ≤ 24) : Sp CX 25 [specA n k D] (int .i64 (cuspV n k D)) := by
  refine fn_sp (C := CX) [] [] tysX_ok mixed Tryd.func25 rfl (by kernel_rfl) Tryd.ntmps25 rfl rfl ?_
  repeat' (conv => whnf
           first
             | (refine Ob.mk (by (first | omega | (simp only [InK]; omega) | exact ⟨by omega, tdivIn (by omega) (by omega)⟩ | exact ⟨by first | omega | (simp only [InK]; omega), by first | omega | (simp only [InK]; omega)⟩)) ?_)
             | (refine Cases.yes (by (first | assumption | exact decide_eq_true (by first | assumption | omega) | exact congrArg (!·) (decide_eq_false (by first | assumption | omega)) | exact congrArg (!·) (show _ = false by assumption) | rfl)) ?_)
             | (refine Cases.no (by (first | assumption | exact decide_eq_false (by first | assumption | omega) | exact congrArg (!·) (decide_eq_true (by first | assumption | omega)) | exact congrArg (!·) (show _ = true by assumption) | rfl)) ?_)
             | (refine Idx.mk ⟨_, rfl, by first | assumption | omega, ?_⟩)
             | (refine Idx.mk ⟨0, rfl, by omega, ?_⟩)
             | (refine DrawOb.start ?_)
             | (refine TryF.fast rfl (by decide +kernel) (by kernel_rfl) ?_)
             | (refine TryF.next rfl ?_)
             | (refine TryF.other ?_)
             | (refine TryG.go rfl (by decide +kernel) (by kernel_rfl) ?_)
             | (refine TryG.next rfl ?_))
  refine ⟨⟨Nat × Int × Int, fun (a, x, y) => ⟨[(1, .v (.c (.loc 0 0))), (3, int .i64 n), (4, int .i64 x), (5, int .i64 y), (6, int .i64 a)], [(0, .st [ix n, ix k, ix D])], 1⟩, fun (a, x, y) => 1 ≤ a ∧ a ≤ n + 1 ∧ x = rootR n 0 (fun a => jac D a) (a - 1) ∧ y = rootR n 1 (fun a => 2 * jac D a) (a - 1), fun (a, _, _) => n + 1 - a, ⟨(1, 0, 0), [], ⟨Nat.le_refl _, by omega, rfl, rfl⟩, (by refine ⟨?_, ?_, rfl⟩ <;> repeat (first | exact TmE.nil | exact OwnE.nil | refine TmE.cons (by first | exact AvLe.refl _ | exact AvLe.int (by omega) | exact AvLe.bool (by first | rfl | assumption)) ?_ | refine OwnE.cons rfl (BlkLe.refl _) ?_ | refine OwnE.cons rfl BlkLe.zero ?_))⟩, ?_⟩⟩
  rintro ⟨a, x, y⟩ ⟨k1, k2, k3, k4⟩
  have b1 := four_bd D n 0 (a - 1)
  have b2 := three_bd D n 1 (a - 1)
  rw [← k3] at b1
  rw [← k4] at b2
  by_cases hd : a ≤ n
  · have r0 := rootR0 (n := n) (g := fun a => jac D a) k1
    have r1 := rootR1 (n := n) (g := fun a => 2 * jac D a) k1
    have hj := jac_bd (D := D) (a := a) (by omega)
    have haa : (a : Int) * a ≤ 120 * 120 := Int.mul_le_mul (by omega) (by omega) (by omega) (by omega)
    have haa0 : 0 ≤ (a : Int) * a := Int.mul_nonneg (by omega) (by omega)
    have e0 : ((a : Int) * a + 1).tmod n = (((a * a + 1) % n : Nat) : Int) := by rw [show (a : Int) * a + 1 = ((a * a + 1 : Nat) : Int) by push_cast; rfl]; exact (Int.ofNat_tmod _ _).symm
    have e1 : ((a : Int) * a + a + 1).tmod n = (((a * a + a + 1) % n : Nat) : Int) := by rw [show (a : Int) * a + a + 1 = ((a * a + a + 1 : Nat) : Int) by push_cast; rfl]; exact (Int.ofNat_tmod _ _).symm
    have eg : Int.gcd a n = Nat.gcd a n := rfl
    rw [← k3] at r0
    rw [← k4] at r1
    clear k3 k4
    by_cases hg : Nat.gcd a n = 1
    · by_cases c0 : (a * a + 1) % n = 0
      · rw [if_pos c0] at r0
        by_cases c1 : (a * a + a + 1) % n = 0
        · rw [if_pos c1] at r1
          repeat' (conv => whnf
                   first
                     | (refine Ob.mk (by (first | omega | (simp only [InK]; omega) | exact ⟨by omega, tdivIn (by omega) (by omega)⟩ | exact ⟨by first | omega | (simp only [InK]; omega), by first | omega | (simp only [InK]; omega)⟩)) ?_)
                     | (refine Cases.yes (by (first | assumption | exact decide_eq_true (by first | assumption | omega) | exact congrArg (!·) (decide_eq_false (by first | assumption | omega)) | exact congrArg (!·) (show _ = false by assumption) | rfl)) ?_)
                     | (refine Cases.no (by (first | assumption | exact decide_eq_false (by first | assumption | omega) | exact congrArg (!·) (decide_eq_true (by first | assumption | omega)) | exact congrArg (!·) (show _ = true by assumption) | rfl)) ?_)
                     | (refine Idx.mk ⟨_, rfl, by first | assumption | omega, ?_⟩)
                     | (refine Idx.mk ⟨0, rfl, by omega, ?_⟩)
                     | (refine DrawOb.start ?_)
                     | (refine TryF.fast rfl (by decide +kernel) (by kernel_rfl) ?_)
                     | (refine TryF.next rfl ?_)
                     | (refine TryF.other ?_)
                     | (refine TryG.go rfl (by decide +kernel) (by kernel_rfl) ?_)
                     | (refine TryG.next rfl ?_)
                     | (refine Sp.call (gcd18_sp a n (by omega) (by omega) (by omega) (by omega)) (ArgsLe.refl _) rfl (AvLe.refl _) ?_)
                     | (refine Sp.call (kron28_sp D a (by omega) (by omega) (by omega) (by omega)) (ArgsLe.refl _) rfl (AvLe.refl _) ?_))
          exact ⟨(a + 1, x + jac D a, y + 2 * jac D a), [], ⟨by omega, by omega, r0.symm, r1.symm⟩, by show n + 1 - (a + 1) < n + 1 - a; omega, (by refine ⟨?_, ?_, rfl⟩ <;> repeat (first | exact TmE.nil | exact OwnE.nil | refine TmE.cons (by first | exact AvLe.refl _ | exact AvLe.int (by omega) | exact AvLe.bool (by first | rfl | assumption)) ?_ | refine OwnE.cons rfl (BlkLe.refl _) ?_ | refine OwnE.cons rfl BlkLe.zero ?_))⟩
        · rw [if_neg c1, Int.add_zero] at r1
          repeat' (conv => whnf
                   first
                     | (refine Ob.mk (by (first | omega | (simp only [InK]; omega) | exact ⟨by omega, tdivIn (by omega) (by omega)⟩ | exact ⟨by first | omega | (simp only [InK]; omega), by first | omega | (simp only [InK]; omega)⟩)) ?_)
                     | (refine Cases.yes (by (first | assumption | exact decide_eq_true (by first | assumption | omega) | exact congrArg (!·) (decide_eq_false (by first | assumption | omega)) | exact congrArg (!·) (show _ = false by assumption) | rfl)) ?_)
                     | (refine Cases.no (by (first | assumption | exact decide_eq_false (by first | assumption | omega) | exact congrArg (!·) (decide_eq_true (by first | assumption | omega)) | exact congrArg (!·) (show _ = true by assumption) | rfl)) ?_)
                     | (refine Idx.mk ⟨_, rfl, by first | assumption | omega, ?_⟩)
                     | (refine Idx.mk ⟨0, rfl, by omega, ?_⟩)
                     | (refine DrawOb.start ?_)
                     | (refine TryF.fast rfl (by decide +kernel) (by kernel_rfl) ?_)
                     | (refine TryF.next rfl ?_)
                     | (refine TryF.other ?_)
                     | (refine TryG.go rfl (by decide +kernel) (by kernel_rfl) ?_)
                     | (refine TryG.next rfl ?_)
                     | (refine Sp.call (gcd18_sp a n (by omega) (by omega) (by omega) (by omega)) (ArgsLe.refl _) rfl (AvLe.refl _) ?_)
                     | (refine Sp.call (kron28_sp D a (by omega) (by omega) (by omega) (by omega)) (ArgsLe.refl _) rfl (AvLe.refl _) ?_))
          exact ⟨(a + 1, x + jac D a, y), [], ⟨by omega, by omega, r0.symm, r1.symm⟩, by show n + 1 - (a + 1) < n + 1 - a; omega, (by refine ⟨?_, ?_, rfl⟩ <;> repeat (first | exact TmE.nil | exact OwnE.nil | refine TmE.cons (by first | exact AvLe.refl _ | exact AvLe.int (by omega) | exact AvLe.bool (by first | rfl | assumption)) ?_ | refine OwnE.cons rfl (BlkLe.refl _) ?_ | refine OwnE.cons rfl BlkLe.zero ?_))⟩
      · rw [if_neg c0, Int.add_zero] at r0
        by_cases c1 : (a * a + a + 1) % n = 0
        · rw [if_pos c1] at r1
          repeat' (conv => whnf
                   first
                     | (refine Ob.mk (by (first | omega | (simp only [InK]; omega) | exact ⟨by omega, tdivIn (by omega) (by omega)⟩ | exact ⟨by first | omega | (simp only [InK]; omega), by first | omega | (simp only [InK]; omega)⟩)) ?_)
                     | (refine Cases.yes (by (first | assumption | exact decide_eq_true (by first | assumption | omega) | exact congrArg (!·) (decide_eq_false (by first | assumption | omega)) | exact congrArg (!·) (show _ = false by assumption) | rfl)) ?_)
                     | (refine Cases.no (by (first | assumption | exact decide_eq_false (by first | assumption | omega) | exact congrArg (!·) (decide_eq_true (by first | assumption | omega)) | exact congrArg (!·) (show _ = true by assumption) | rfl)) ?_)
                     | (refine Idx.mk ⟨_, rfl, by first | assumption | omega, ?_⟩)
                     | (refine Idx.mk ⟨0, rfl, by omega, ?_⟩)
                     | (refine DrawOb.start ?_)
                     | (refine TryF.fast rfl (by decide +kernel) (by kernel_rfl) ?_)
                     | (refine TryF.next rfl ?_)
                     | (refine TryF.other ?_)
                     | (refine TryG.go rfl (by decide +kernel) (by kernel_rfl) ?_)
                     | (refine TryG.next rfl ?_)
                     | (refine Sp.call (gcd18_sp a n (by omega) (by omega) (by omega) (by omega)) (ArgsLe.refl _) rfl (AvLe.refl _) ?_)
                     | (refine Sp.call (kron28_sp D a (by omega) (by omega) (by omega) (by omega)) (ArgsLe.refl _) rfl (AvLe.refl _) ?_))
          exact ⟨(a + 1, x, y + 2 * jac D a), [], ⟨by omega, by omega, r0.symm, r1.symm⟩, by show n + 1 - (a + 1) < n + 1 - a; omega, (by refine ⟨?_, ?_, rfl⟩ <;> repeat (first | exact TmE.nil | exact OwnE.nil | refine TmE.cons (by first | exact AvLe.refl _ | exact AvLe.int (by omega) | exact AvLe.bool (by first | rfl | assumption)) ?_ | refine OwnE.cons rfl (BlkLe.refl _) ?_ | refine OwnE.cons rfl BlkLe.zero ?_))⟩
        · rw [if_neg c1, Int.add_zero] at r1
          repeat' (conv => whnf
                   first
                     | (refine Ob.mk (by (first | omega | (simp only [InK]; omega) | exact ⟨by omega, tdivIn (by omega) (by omega)⟩ | exact ⟨by first | omega | (simp only [InK]; omega), by first | omega | (simp only [InK]; omega)⟩)) ?_)
                     | (refine Cases.yes (by (first | assumption | exact decide_eq_true (by first | assumption | omega) | exact congrArg (!·) (decide_eq_false (by first | assumption | omega)) | exact congrArg (!·) (show _ = false by assumption) | rfl)) ?_)
                     | (refine Cases.no (by (first | assumption | exact decide_eq_false (by first | assumption | omega) | exact congrArg (!·) (decide_eq_true (by first | assumption | omega)) | exact congrArg (!·) (show _ = true by assumption) | rfl)) ?_)
                     | (refine Idx.mk ⟨_, rfl, by first | assumption | omega, ?_⟩)
                     | (refine Idx.mk ⟨0, rfl, by omega, ?_⟩)
                     | (refine DrawOb.start ?_)
                     | (refine TryF.fast rfl (by decide +kernel) (by kernel_rfl) ?_)
                     | (refine TryF.next rfl ?_)
                     | (refine TryF.other ?_)
                     | (refine TryG.go rfl (by decide +kernel) (by kernel_rfl) ?_)
                     | (refine TryG.next rfl ?_)
                     | (refine Sp.call (gcd18_sp a n (by omega) (by omega) (by omega) (by omega)) (ArgsLe.refl _) rfl (AvLe.refl _) ?_))
          exact ⟨(a + 1, x, y), [], ⟨by omega, by omega, r0.symm, r1.symm⟩, by show n + 1 - (a + 1) < n + 1 - a; omega, (by refine ⟨?_, ?_, rfl⟩ <;> repeat (first | exact TmE.nil | exact OwnE.nil | refine TmE.cons (by first | exact AvLe.refl _ | exact AvLe.int (by omega) | exact AvLe.bool (by first | rfl | assumption)) ?_ | refine OwnE.cons rfl (BlkLe.refl _) ?_ | refine OwnE.cons rfl BlkLe.zero ?_))⟩
    · rw [if_neg fun h => hg (root_gcd0 h), Int.add_zero] at r0
      rw [if_neg fun h => hg (root_gcd1 h), Int.add_zero] at r1
      have hg2 : Int.gcd a n ≠ 1 := hg
      repeat' (conv => whnf
               first
                 | (refine Ob.mk (by (first | omega | (simp only [InK]; omega) | exact ⟨by omega, tdivIn (by omega) (by omega)⟩ | exact ⟨by first | omega | (simp only [InK]; omega), by first | omega | (simp only [InK]; omega)⟩)) ?_)
                 | (refine Cases.yes (by (first | assumption | exact decide_eq_true (by first | assumption | omega) | exact congrArg (!·) (decide_eq_false (by first | assumption | omega)) | exact congrArg (!·) (show _ = false by assumption) | rfl)) ?_)
                 | (refine Cases.no (by (first | assumption | exact decide_eq_false (by first | assumption | omega) | exact congrArg (!·) (decide_eq_true (by first | assumption | omega)) | exact congrArg (!·) (show _ = true by assumption) | rfl)) ?_)
                 | (refine Idx.mk ⟨_, rfl, by first | assumption | omega, ?_⟩)
                 | (refine Idx.mk ⟨0, rfl, by omega, ?_⟩)
                 | (refine DrawOb.start ?_)
                 | (refine TryF.fast rfl (by decide +kernel) (by kernel_rfl) ?_)
                 | (refine TryF.next rfl ?_)
                 | (refine TryF.other ?_)
                 | (refine TryG.go rfl (by decide +kernel) (by kernel_rfl) ?_)
                 | (refine TryG.next rfl ?_)
                 | (refine Sp.call (gcd18_sp a n (by omega) (by omega) (by omega) (by omega)) (ArgsLe.refl _) rfl (AvLe.refl _) ?_))
      exact ⟨(a + 1, x, y), [], ⟨by omega, by omega, r0.symm, r1.symm⟩, by show n + 1 - (a + 1) < n + 1 - a; omega, (by refine ⟨?_, ?_, rfl⟩ <;> repeat (first | exact TmE.nil | exact OwnE.nil | refine TmE.cons (by first | exact AvLe.refl _ | exact AvLe.int (by omega) | exact AvLe.bool (by first | rfl | assumption)) ?_ | refine OwnE.cons rfl (BlkLe.refl _) ?_ | refine OwnE.cons rfl BlkLe.zero ?_))⟩
  · obtain rfl : a = n + 1 := by omega
    have hf0 : 1 ≤ D.natAbs := by omega
    have hf : D.natAbs ≤ 120 := by omega
    have f1 := four_bd D n 0 n
    have f2 := three_bd D n 1 n
    simp only [Nat.add_sub_cancel] at k3 k4
    rw [k3, k4]
    clear b1 b2 k3 k4
    repeat' (conv => whnf
             first
               | (refine Ob.mk (by (first | omega | (simp only [InK]; omega) | exact ⟨by omega, tdivIn (by omega) (by omega)⟩ | exact ⟨by first | omega | (simp only [InK]; omega), by first | omega | (simp only [InK]; omega)⟩)) ?_)
               | (refine Cases.yes (by (first | assumption | exact decide_eq_true (by first | assumption | omega) | exact congrArg (!·) (decide_eq_false (by first | assumption | omega)) | exact congrArg (!·) (show _ = false by assumption) | rfl)) ?_)
               | (refine Cases.no (by (first | assumption | exact decide_eq_false (by first | assumption | omega) | exact congrArg (!·) (decide_eq_true (by first | assumption | omega)) | exact congrArg (!·) (show _ = true by assumption) | rfl)) ?_)
               | (refine Idx.mk ⟨_, rfl, by first | assumption | omega, ?_⟩)
               | (refine Idx.mk ⟨0, rfl, by omega, ?_⟩)
               | (refine DrawOb.start ?_)
               | (refine TryF.fast rfl (by decide +kernel) (by kernel_rfl) ?_)
               | (refine TryF.next rfl ?_)
               | (refine TryF.other ?_)
               | (refine TryG.go rfl (by decide +kernel) (by kernel_rfl) ?_)
               | (refine TryG.next rfl ?_)
               | (refine Sp.call (formula_sp n k D.natAbs (rootR n 0 (fun a => jac D a) n) (rootR n 1 (fun a => 2 * jac D a) n) hn0 hn hf0 hf hfn hk hk2 (by omega) (by omega) (by omega) (by omega)) (.cons (.refl _) (.cons (.refl _) (.cons (AvLe.int (by split <;> (try simp only [cond_true, cond_false]) <;> omega)) (.cons (.refl _) (.cons (.refl _) .nil))))) rfl (AvLe.refl _) ?_))
    refine ⟨⟨_, _, rfl, rfl, AvLe.int ?_⟩⟩
    rfl
set_option maxHeartbeats 4000000 in
theorem eisr_sp (n k : Nat) (D : Int) (hn0 : 1 ≤ n) (hn : n ≤ 120) (h0 : D ≠ 0) (h4 : D % 4 = 0 ∨ D % 4 = 1) (hD : -120 ≤ D) (hD2 : D ≤ 120) (hfn : D.natAbs ∣ n) (hk : 2 ≤ k) (hk2 : k ≤ 24) : Sp CX 26 [specA n k D] (int .i64 (lam D.natAbs n - if k = 2 ∧ D.natAbs = 1 then 1 else 0)) := by
  refine fn_sp (C := CX) [] [] tysX_ok mixed Tryd.func26 rfl (by kernel_rfl) Tryd.ntmps26 rfl rfl ?_
  have hf0 : 1 ≤ D.natAbs := by omega
  have hf : D.natAbs ≤ 120 := by omega
  have hl := lam_small (f := D.natAbs) hn0 hn
  by_cases c : k = 2 ∧ D = 1
  · obtain ⟨rfl, rfl⟩ := c
    have hl1 := lam_small (f := 1) hn0 hn
    repeat' (conv => whnf
             first
               | (refine Ob.mk (by (first | omega | (simp only [InK]; omega) | exact ⟨by omega, tdivIn (by omega) (by omega)⟩ | exact ⟨by first | omega | (simp only [InK]; omega), by first | omega | (simp only [InK]; omega)⟩)) ?_)
               | (refine Cases.yes (by (first | assumption | exact decide_eq_true (by first | assumption | omega) | exact congrArg (!·) (decide_eq_false (by first | assumption | omega)) | exact congrArg (!·) (show _ = false by assumption) | rfl)) ?_)
               | (refine Cases.no (by (first | assumption | exact decide_eq_false (by first | assumption | omega) | exact congrArg (!·) (decide_eq_true (by first | assumption | omega)) | exact congrArg (!·) (show _ = true by assumption) | rfl)) ?_)
               | (refine Idx.mk ⟨_, rfl, by first | assumption | omega, ?_⟩)
               | (refine Idx.mk ⟨0, rfl, by omega, ?_⟩)
               | (refine DrawOb.start ?_)
               | (refine TryF.fast rfl (by decide +kernel) (by kernel_rfl) ?_)
               | (refine TryF.next rfl ?_)
               | (refine TryF.other ?_)
               | (refine TryG.go rfl (by decide +kernel) (by kernel_rfl) ?_)
               | (refine TryG.next rfl ?_)
               | (refine Sp.call (rlam_sp n 1 (by omega) (by omega) (by omega) (by omega) (Nat.one_dvd n)) (ArgsLe.refl _) rfl (AvLe.refl _) ?_))
    refine ⟨⟨_, _, rfl, rfl, AvLe.int ?_⟩⟩
    rfl
  · rw [if_neg fun h => c ⟨h.1, by omega⟩]
    by_cases c2 : k = 2
    · have c3 : D ≠ 1 := fun h => c ⟨c2, h⟩
      repeat' (conv => whnf
               first
                 | (refine Ob.mk (by (first | omega | (simp only [InK]; omega) | exact ⟨by omega, tdivIn (by omega) (by omega)⟩ | exact ⟨by first | omega | (simp only [InK]; omega), by first | omega | (simp only [InK]; omega)⟩)) ?_)
                 | (refine Cases.yes (by (first | assumption | exact decide_eq_true (by first | assumption | omega) | exact congrArg (!·) (decide_eq_false (by first | assumption | omega)) | exact congrArg (!·) (show _ = false by assumption) | rfl)) ?_)
                 | (refine Cases.no (by (first | assumption | exact decide_eq_false (by first | assumption | omega) | exact congrArg (!·) (decide_eq_true (by first | assumption | omega)) | exact congrArg (!·) (show _ = true by assumption) | rfl)) ?_)
                 | (refine Idx.mk ⟨_, rfl, by first | assumption | omega, ?_⟩)
                 | (refine Idx.mk ⟨0, rfl, by omega, ?_⟩)
                 | (refine DrawOb.start ?_)
                 | (refine TryF.fast rfl (by decide +kernel) (by kernel_rfl) ?_)
                 | (refine TryF.next rfl ?_)
                 | (refine TryF.other ?_)
                 | (refine TryG.go rfl (by decide +kernel) (by kernel_rfl) ?_)
                 | (refine TryG.next rfl ?_)
                 | (refine Sp.call (rlam_sp n D.natAbs (by omega) (by omega) (by omega) (by omega) hfn) (.cons (.refl _) (.cons (AvLe.int (by split <;> (try simp only [cond_true, cond_false]) <;> omega)) .nil)) rfl (AvLe.refl _) ?_))
      refine ⟨⟨_, _, rfl, rfl, AvLe.int ?_⟩⟩
      omega
    · repeat' (conv => whnf
               first
                 | (refine Ob.mk (by (first | omega | (simp only [InK]; omega) | exact ⟨by omega, tdivIn (by omega) (by omega)⟩ | exact ⟨by first | omega | (simp only [InK]; omega), by first | omega | (simp only [InK]; omega)⟩)) ?_)
                 | (refine Cases.yes (by (first | assumption | exact decide_eq_true (by first | assumption | omega) | exact congrArg (!·) (decide_eq_false (by first | assumption | omega)) | exact congrArg (!·) (show _ = false by assumption) | rfl)) ?_)
                 | (refine Cases.no (by (first | assumption | exact decide_eq_false (by first | assumption | omega) | exact congrArg (!·) (decide_eq_true (by first | assumption | omega)) | exact congrArg (!·) (show _ = true by assumption) | rfl)) ?_)
                 | (refine Idx.mk ⟨_, rfl, by first | assumption | omega, ?_⟩)
                 | (refine Idx.mk ⟨0, rfl, by omega, ?_⟩)
                 | (refine DrawOb.start ?_)
                 | (refine TryF.fast rfl (by decide +kernel) (by kernel_rfl) ?_)
                 | (refine TryF.next rfl ?_)
                 | (refine TryF.other ?_)
                 | (refine TryG.go rfl (by decide +kernel) (by kernel_rfl) ?_)
                 | (refine TryG.next rfl ?_)
                 | (refine Sp.call (rlam_sp n D.natAbs (by omega) (by omega) (by omega) (by omega) hfn) (.cons (.refl _) (.cons (AvLe.int (by split <;> (try simp only [cond_true, cond_false]) <;> omega)) .nil)) rfl (AvLe.refl _) ?_))
      refine ⟨⟨_, _, rfl, rfl, AvLe.int ?_⟩⟩
      omega
theorem sturmr_sp (n k : Nat) (D : Int) (hn0 : 1 ≤ n) (hn : n ≤ 120) (hk2 : k ≤ 24) : Sp CX 14 [specA n k D] (int .i64 (((k : Int) * psi n).tdiv 12)) := by
  refine fn_sp (C := CX) [] [] tysX_ok mixed Tryd.func14 rfl (by kernel_rfl) Tryd.ntmps14 rfl rfl ?_
  have a := psi_small hn0 hn
  have b : (k : Int) * psi n ≤ 24 * 400 := Int.mul_le_mul (by omega) (by omega) (by omega) (by omega)
  have c : 0 ≤ (k : Int) * psi n := Int.mul_nonneg (by omega) (by omega)
  repeat' (conv => whnf
           first
             | (refine Ob.mk (by (first | omega | (simp only [InK]; omega) | exact ⟨by omega, tdivIn (by omega) (by omega)⟩ | exact ⟨by first | omega | (simp only [InK]; omega), by first | omega | (simp only [InK]; omega)⟩)) ?_)
             | (refine Cases.yes (by (first | assumption | exact decide_eq_true (by first | assumption | omega) | exact congrArg (!·) (decide_eq_false (by first | assumption | omega)) | exact congrArg (!·) (show _ = false by assumption) | rfl)) ?_)
             | (refine Cases.no (by (first | assumption | exact decide_eq_false (by first | assumption | omega) | exact congrArg (!·) (decide_eq_true (by first | assumption | omega)) | exact congrArg (!·) (show _ = true by assumption) | rfl)) ?_)
             | (refine Idx.mk ⟨_, rfl, by first | assumption | omega, ?_⟩)
             | (refine Idx.mk ⟨0, rfl, by omega, ?_⟩)
             | (refine DrawOb.start ?_)
             | (refine TryF.fast rfl (by decide +kernel) (by kernel_rfl) ?_)
             | (refine TryF.next rfl ?_)
             | (refine TryF.other ?_)
             | (refine TryG.go rfl (by decide +kernel) (by kernel_rfl) ?_)
             | (refine TryG.next rfl ?_)
             | (refine Sp.call (psi21_sp n (by omega) (by omega)) (ArgsLe.refl _) rfl (AvLe.refl _) ?_))
  refine ⟨⟨_, _, rfl, rfl, AvLe.int ?_⟩⟩
  rfl
end Go.Proofs.YteamlpflgfmieaaDoor

/- The reference: new forms. -/
namespace Go.Proofs.YteamlpflgfmieaaDoor
open Go Go.RowKit Go.VG HP
set_option maxHeartbeats 4000000 in
theorem newr_sp (n k : Nat) (D : Int) (hn0 : 1 ≤ n) (hn : n ≤ 120) (h0 : D ≠ 0) (hD : -120 ≤ D) (hD2 : D ≤ 120) (hk : 2 ≤ k) (hk2 : k ≤ 24) : Sp CX 27 [specA n k D] (int .i64 (newV n k D)) := by
  obtain ⟨Z, len, hZ, hlen⟩ := zOf (dvs n) 0
  have hll : len ≤ 121 := by
    rw [hlen]
    unfold dvs
    exact Nat.le_trans (List.length_filter_le _ _) (by simp; omega)
  refine fn_sp (C := CX) [(6,0)] [] tysX_ok mixed Tryd.func27 rfl (by kernel_rfl) Tryd.ntmps27 rfl rfl ?_
  repeat' (conv => whnf
           first
             | (refine Ob.mk (by (first | omega | (simp only [InK]; omega) | exact ⟨by omega, tdivIn (by omega) (by omega)⟩ | exact ⟨by first | omega | (simp only [InK]; omega), by first | omega | (simp only [InK]; omega)⟩)) ?_)
             | (refine Cases.yes (by (first | assumption | exact decide_eq_true (by first | assumption | omega) | exact congrArg (!·) (decide_eq_false (by first | assumption | omega)) | exact congrArg (!·) (show _ = false by assumption) | rfl)) ?_)
             | (refine Cases.no (by (first | assumption | exact decide_eq_false (by first | assumption | omega) | exact congrArg (!·) (decide_eq_true (by first | assumption | omega)) | exact congrArg (!·) (show _ = true by assumption) | rfl)) ?_)
             | (refine Idx.mk ⟨_, rfl, by first | assumption | omega, ?_⟩)
             | (refine Idx.mk ⟨0, rfl, by omega, ?_⟩)
             | (refine DrawOb.start ?_)
             | (refine TryF.fast rfl (by decide +kernel) (by kernel_rfl) ?_)
             | (refine TryF.next rfl ?_)
             | (refine TryF.other ?_)
             | (refine TryG.go rfl (by decide +kernel) (by kernel_rfl) ?_)
             | (refine TryG.next rfl ?_)
             | (refine Sp.call (divisors20_sp n Z len (fun i x => hZ i x) hlen hn0 (by omega)) (ArgsLe.refl _) rfl (AvLe.refl _) ?_))
  refine ⟨⟨Nat × Int, fun (i, s) => ⟨[(1, .v (.c (.loc 0 0))), (3, int .i64 s), (4, .v (.c (.sl 1 Nat (fun z _ => ix z) Z len))), (5, int .i64 i)], [(0, .st [ix n, ix k, ix D])], 1⟩, fun (i, s) => i ≤ len ∧ s = sumG (newG n k D) ((dvs n).take i), fun (i, _) => len - i, ⟨(0, 0), [], ⟨Nat.zero_le _, rfl⟩, (by refine ⟨?_, ?_, rfl⟩ <;> repeat (first | exact TmE.nil | exact OwnE.nil | refine TmE.cons (by first | exact AvLe.refl _ | exact AvLe.int (by omega) | exact AvLe.bool (by first | rfl | assumption)) ?_ | refine OwnE.cons rfl (BlkLe.refl _) ?_ | refine OwnE.cons rfl BlkLe.zero ?_))⟩, ?_⟩⟩
  rintro ⟨i, s⟩ ⟨k1, k2⟩
  have b0 := newS_bd D hn0 hn (show 1 ≤ k by omega) hk2 i
  rw [← k2] at b0
  by_cases hd : i < len
  · have hat : (dvs n)[i]? = some (Z i) := by
      have h := List.getElem?_eq_getElem (l := dvs n) (i := i) (by omega)
      rw [h, hZ i _ h]
    have hdv : Z i ∣ n := (dvs_mem hn0).1 (List.mem_of_getElem? hat)
    have hs := sumG_next (newG n k D) hat
    rw [← k2] at hs
    have hb := newG_bd D hn0 hn (show 1 ≤ k by omega) hk2 hdv
    have hz1 := Nat.pos_of_dvd_of_pos hdv hn0
    have hz2 := Nat.le_of_dvd hn0 hdv
    have hq1 : 0 < n / Z i := Nat.div_pos hz2 hz1
    have hq2 := Nat.div_le_self n (Z i)
    have eq : (n : Int).tdiv (Z i) = ((n / Z i : Nat) : Int) := (Int.ofNat_tdiv n (Z i)).symm
    by_cases c : D.natAbs ∣ Z i
    · have ct : (Z i : Int).tmod D = 0 := Int.tmod_eq_zero_of_dvd (by rw [← Int.natAbs_dvd_natAbs]; simpa using c)
      have e : newG n k D (Z i) = bet (n / Z i) * cuspV (Z i) k D := by unfold newG; rw [if_pos c]
      rw [e] at hs hb
      have hb1 := bet_sm hq1 (show n / Z i ≤ 120 by omega)
      have hb2 := cuspV_bd D hz1 (show Z i ≤ 120 by omega) (show 1 ≤ k by omega) hk2
      clear k2
      have hct : decide ((Z i : Int).tmod D = 0) = true := decide_eq_true ct
      repeat' (conv => whnf
               first
                 | (refine Ob.mk (by (first | omega | (simp only [InK]; omega) | exact ⟨by omega, tdivIn (by omega) (by omega)⟩ | exact ⟨by first | omega | (simp only [InK]; omega), by first | omega | (simp only [InK]; omega)⟩)) ?_)
                 | (refine Cases.yes (by (first | assumption | exact decide_eq_true (by first | assumption | omega) | exact congrArg (!·) (decide_eq_false (by first | assumption | omega)) | exact congrArg (!·) (show _ = false by assumption) | rfl)) ?_)
                 | (refine Cases.no (by (first | assumption | exact decide_eq_false (by first | assumption | omega) | exact congrArg (!·) (decide_eq_true (by first | assumption | omega)) | exact congrArg (!·) (show _ = true by assumption) | rfl)) ?_)
                 | (refine Idx.mk ⟨_, rfl, by first | assumption | omega, ?_⟩)
                 | (refine Idx.mk ⟨0, rfl, by omega, ?_⟩)
                 | (refine DrawOb.start ?_)
                 | (refine TryF.fast rfl (by decide +kernel) (by kernel_rfl) ?_)
                 | (refine TryF.next rfl ?_)
                 | (refine TryF.other ?_)
                 | (refine TryG.go rfl (by decide +kernel) (by kernel_rfl) ?_)
                 | (refine TryG.next rfl ?_))
      refine ⟨⟨Unit, fun _ => ⟨[(1, .v (.c (.loc 0 0))), (3, int .i64 s), (4, .v (.c (.sl 1 Nat (fun z _ => ix z) Z len))), (5, int .i64 i), (22, bool true)], [(0, .st [ix n, ix k, ix D])], 1⟩, fun _ => True, ?_, ?_⟩⟩
      · repeat' (conv => whnf
                 first
                   | (refine Ob.mk (by (first | omega | (simp only [InK]; omega) | exact ⟨by omega, tdivIn (by omega) (by omega)⟩ | exact ⟨by first | omega | (simp only [InK]; omega), by first | omega | (simp only [InK]; omega)⟩)) ?_)
                   | (refine Cases.yes (by (first | assumption | exact decide_eq_true (by first | assumption | omega) | exact congrArg (!·) (decide_eq_false (by first | assumption | omega)) | exact congrArg (!·) (show _ = false by assumption) | rfl)) ?_)
                   | (refine Cases.no (by (first | assumption | exact decide_eq_false (by first | assumption | omega) | exact congrArg (!·) (decide_eq_true (by first | assumption | omega)) | exact congrArg (!·) (show _ = true by assumption) | rfl)) ?_)
                   | (refine Idx.mk ⟨_, rfl, by first | assumption | omega, ?_⟩)
                   | (refine Idx.mk ⟨0, rfl, by omega, ?_⟩)
                   | (refine DrawOb.start ?_)
                   | (refine TryF.fast rfl (by decide +kernel) (by kernel_rfl) ?_)
                   | (refine TryF.next rfl ?_)
                   | (refine TryF.other ?_)
                   | (refine TryG.go rfl (by decide +kernel) (by kernel_rfl) ?_)
                   | (refine TryG.next rfl ?_))
        exact ⟨(), [], trivial, (by refine ⟨?_, ?_, rfl⟩ <;> repeat (first | exact TmE.nil | exact OwnE.nil | refine TmE.cons (by first | exact AvLe.refl _ | exact AvLe.int (by omega) | exact AvLe.bool (by first | rfl | assumption)) ?_ | refine OwnE.cons rfl (BlkLe.refl _) ?_ | refine OwnE.cons rfl BlkLe.zero ?_))⟩
      rintro - -
      repeat' (conv => whnf
               first
                 | (refine Ob.mk (by (first | omega | (simp only [InK]; omega) | exact ⟨by omega, tdivIn (by omega) (by omega)⟩ | exact ⟨by first | omega | (simp only [InK]; omega), by first | omega | (simp only [InK]; omega)⟩)) ?_)
                 | (refine Cases.yes (by (first | assumption | exact decide_eq_true (by first | assumption | omega) | exact congrArg (!·) (decide_eq_false (by first | assumption | omega)) | exact congrArg (!·) (show _ = false by assumption) | rfl)) ?_)
                 | (refine Cases.no (by (first | assumption | exact decide_eq_false (by first | assumption | omega) | exact congrArg (!·) (decide_eq_true (by first | assumption | omega)) | exact congrArg (!·) (show _ = true by assumption) | rfl)) ?_)
                 | (refine Idx.mk ⟨_, rfl, by first | assumption | omega, ?_⟩)
                 | (refine Idx.mk ⟨0, rfl, by omega, ?_⟩)
                 | (refine DrawOb.start ?_)
                 | (refine TryF.fast rfl (by decide +kernel) (by kernel_rfl) ?_)
                 | (refine TryF.next rfl ?_)
                 | (refine TryF.other ?_)
                 | (refine TryG.go rfl (by decide +kernel) (by kernel_rfl) ?_)
                 | (refine TryG.next rfl ?_)
                 | (refine Sp.call (beta31_sp (n / Z i) (by omega) (by omega)) (.cons (AvLe.int (by omega)) .nil) rfl (AvLe.refl _) ?_)
                 | (refine Sp.call (cuspr_sp (Z i) k D (by omega) (by omega) h0 hD hD2 c hk hk2) (ArgsLe.refl _) rfl (AvLe.refl _) ?_))
      exact ⟨(i + 1, s + bet (n / Z i) * cuspV (Z i) k D), [], ⟨hd, hs.symm⟩, by show len - (i + 1) < len - i; omega, (by refine ⟨?_, ?_, rfl⟩ <;> repeat (first | exact TmE.nil | exact OwnE.nil | refine TmE.cons (by first | exact AvLe.refl _ | exact AvLe.int (by omega) | exact AvLe.bool (by first | rfl | assumption)) ?_ | refine OwnE.cons rfl (BlkLe.refl _) ?_ | refine OwnE.cons rfl BlkLe.zero ?_))⟩
    · have ct : (Z i : Int).tmod D ≠ 0 := fun h => c (by
        have := Int.dvd_of_tmod_eq_zero h
        rw [← Int.natAbs_dvd_natAbs] at this
        simpa using this)
      have e : newG n k D (Z i) = 0 := by unfold newG; rw [if_neg c]
      rw [e, Int.add_zero] at hs
      clear k2
      have hct : decide ((Z i : Int).tmod D = 0) = false := decide_eq_false ct
      repeat' (conv => whnf
               first
                 | (refine Ob.mk (by (first | omega | (simp only [InK]; omega) | exact ⟨by omega, tdivIn (by omega) (by omega)⟩ | exact ⟨by first | omega | (simp only [InK]; omega), by first | omega | (simp only [InK]; omega)⟩)) ?_)
                 | (refine Cases.yes (by (first | assumption | exact decide_eq_true (by first | assumption | omega) | exact congrArg (!·) (decide_eq_false (by first | assumption | omega)) | exact congrArg (!·) (show _ = false by assumption) | rfl)) ?_)
                 | (refine Cases.no (by (first | assumption | exact decide_eq_false (by first | assumption | omega) | exact congrArg (!·) (decide_eq_true (by first | assumption | omega)) | exact congrArg (!·) (show _ = true by assumption) | rfl)) ?_)
                 | (refine Idx.mk ⟨_, rfl, by first | assumption | omega, ?_⟩)
                 | (refine Idx.mk ⟨0, rfl, by omega, ?_⟩)
                 | (refine DrawOb.start ?_)
                 | (refine TryF.fast rfl (by decide +kernel) (by kernel_rfl) ?_)
                 | (refine TryF.next rfl ?_)
                 | (refine TryF.other ?_)
                 | (refine TryG.go rfl (by decide +kernel) (by kernel_rfl) ?_)
                 | (refine TryG.next rfl ?_))
      refine ⟨⟨Unit, fun _ => ⟨[(1, .v (.c (.loc 0 0))), (3, int .i64 s), (4, .v (.c (.sl 1 Nat (fun z _ => ix z) Z len))), (5, int .i64 i), (22, bool false)], [(0, .st [ix n, ix k, ix D])], 1⟩, fun _ => True, ?_, ?_⟩⟩
      · repeat' (conv => whnf
                 first
                   | (refine Ob.mk (by (first | omega | (simp only [InK]; omega) | exact ⟨by omega, tdivIn (by omega) (by omega)⟩ | exact ⟨by first | omega | (simp only [InK]; omega), by first | omega | (simp only [InK]; omega)⟩)) ?_)
                   | (refine Cases.yes (by (first | assumption | exact decide_eq_true (by first | assumption | omega) | exact congrArg (!·) (decide_eq_false (by first | assumption | omega)) | exact congrArg (!·) (show _ = false by assumption) | rfl)) ?_)
                   | (refine Cases.no (by (first | assumption | exact decide_eq_false (by first | assumption | omega) | exact congrArg (!·) (decide_eq_true (by first | assumption | omega)) | exact congrArg (!·) (show _ = true by assumption) | rfl)) ?_)
                   | (refine Idx.mk ⟨_, rfl, by first | assumption | omega, ?_⟩)
                   | (refine Idx.mk ⟨0, rfl, by omega, ?_⟩)
                   | (refine DrawOb.start ?_)
                   | (refine TryF.fast rfl (by decide +kernel) (by kernel_rfl) ?_)
                   | (refine TryF.next rfl ?_)
                   | (refine TryF.other ?_)
                   | (refine TryG.go rfl (by decide +kernel) (by kernel_rfl) ?_)
                   | (refine TryG.next rfl ?_))
        exact ⟨(), [], trivial, (by refine ⟨?_, ?_, rfl⟩ <;> repeat (first | exact TmE.nil | exact OwnE.nil | refine TmE.cons (by first | exact AvLe.refl _ | exact AvLe.int (by omega) | exact AvLe.bool (by first | rfl | assumption)) ?_ | refine OwnE.cons rfl (BlkLe.refl _) ?_ | refine OwnE.cons rfl BlkLe.zero ?_))⟩
      rintro - -
      repeat' (conv => whnf
               first
                 | (refine Ob.mk (by (first | omega | (simp only [InK]; omega) | exact ⟨by omega, tdivIn (by omega) (by omega)⟩ | exact ⟨by first | omega | (simp only [InK]; omega), by first | omega | (simp only [InK]; omega)⟩)) ?_)
                 | (refine Cases.yes (by (first | assumption | exact decide_eq_true (by first | assumption | omega) | exact congrArg (!·) (decide_eq_false (by first | assumption | omega)) | exact congrArg (!·) (show _ = false by assumption) | rfl)) ?_)
                 | (refine Cases.no (by (first | assumption | exact decide_eq_false (by first | assumption | omega) | exact congrArg (!·) (decide_eq_true (by first | assumption | omega)) | exact congrArg (!·) (show _ = true by assumption) | rfl)) ?_)
                 | (refine Idx.mk ⟨_, rfl, by first | assumption | omega, ?_⟩)
                 | (refine Idx.mk ⟨0, rfl, by omega, ?_⟩)
                 | (refine DrawOb.start ?_)
                 | (refine TryF.fast rfl (by decide +kernel) (by kernel_rfl) ?_)
                 | (refine TryF.next rfl ?_)
                 | (refine TryF.other ?_)
                 | (refine TryG.go rfl (by decide +kernel) (by kernel_rfl) ?_)
                 | (refine TryG.next rfl ?_))
      exact ⟨(i + 1, s), [], ⟨hd, hs.symm⟩, by show len - (i + 1) < len - i; omega, (by refine ⟨?_, ?_, rfl⟩ <;> repeat (first | exact TmE.nil | exact OwnE.nil | refine TmE.cons (by first | exact AvLe.refl _ | exact AvLe.int (by omega) | exact AvLe.bool (by first | rfl | assumption)) ?_ | refine OwnE.cons rfl (BlkLe.refl _) ?_ | refine OwnE.cons rfl BlkLe.zero ?_))⟩
  · obtain rfl : i = len := by omega
    repeat' (conv => whnf
             first
               | (refine Ob.mk (by (first | omega | (simp only [InK]; omega) | exact ⟨by omega, tdivIn (by omega) (by omega)⟩ | exact ⟨by first | omega | (simp only [InK]; omega), by first | omega | (simp only [InK]; omega)⟩)) ?_)
               | (refine Cases.yes (by (first | assumption | exact decide_eq_true (by first | assumption | omega) | exact congrArg (!·) (decide_eq_false (by first | assumption | omega)) | exact congrArg (!·) (show _ = false by assumption) | rfl)) ?_)
               | (refine Cases.no (by (first | assumption | exact decide_eq_false (by first | assumption | omega) | exact congrArg (!·) (decide_eq_true (by first | assumption | omega)) | exact congrArg (!·) (show _ = true by assumption) | rfl)) ?_)
               | (refine Idx.mk ⟨_, rfl, by first | assumption | omega, ?_⟩)
               | (refine Idx.mk ⟨0, rfl, by omega, ?_⟩)
               | (refine DrawOb.start ?_)
               | (refine TryF.fast rfl (by decide +kernel) (by kernel_rfl) ?_)
               | (refine TryF.next rfl ?_)
               | (refine TryF.other ?_)
               | (refine TryG.go rfl (by decide +kernel) (by kernel_rfl) ?_)
               | (refine TryG.next rfl ?_))
    refine ⟨⟨_, _, rfl, rfl, AvLe.int ?_⟩⟩
    rw [k2, hlen, List.take_length]
    rfl
end Go.Proofs.YteamlpflgfmieaaDoor

