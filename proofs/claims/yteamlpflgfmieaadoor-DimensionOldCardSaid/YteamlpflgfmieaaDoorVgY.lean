/- States in letters: symbols, the formula, the cusp forms. -/
import Derived.Test.YteamlpflgfmieaaDoorPkVgU
import Derived.Test.YteamlpflgfmieaaDoorVgW
namespace Go.Proofs.YteamlpflgfmieaaDoor
open Go Go.RowKit Go.VG HP
def sqN (p r : Nat) : Bool := (List.range p).any fun x => x * x % p == r
theorem sq_all : allB 121 (fun p => !prmC p || p == 2 || allB p fun r => r == 0 || (if sqN p r then r ^ ((p - 1) / 2) % p == 1 else r ^ ((p - 1) / 2) % p == p - 1)) = true := by decide +kernel
def sqB (d : Int) (p : Nat) : Bool := (List.range (p - 1)).any fun x => decide ((((x + 1 : Nat) : Int) * ((x + 1 : Nat) : Int) - d) % p = 0)
def symV (d : Int) (p : Nat) : Int := if d.tmod p = 0 then 0 else if p = 2 then (if d % 8 = 1 ∨ d % 8 = 7 then 1 else -1) else if sqB d p then 1 else -1
theorem sqB_yes {d : Int} {p x : Nat} (h1 : 1 ≤ x) (h2 : x < p) (h : ((x : Int) * x - d) % p = 0) : sqB d p = true := by
  unfold sqB
  rw [List.any_eq_true]
  refine ⟨x - 1, List.mem_range.2 (by omega), ?_⟩
  rw [show x - 1 + 1 = x by omega]
  exact decide_eq_true h
theorem sqB_no {d : Int} {p : Nat} (h : ∀ x : Nat, 1 ≤ x → x < p → ((x : Int) * x - d) % p ≠ 0) : sqB d p = false := by
  unfold sqB
  rw [List.any_eq_false]
  intro x hx
  have := h (x + 1) (by omega) (by have := List.mem_range.1 hx; omega)
  simpa using this
theorem symV_kr {d : Int} {p : Nat} (hp : Prm p) (h120 : p ≤ 120) : symV d p = kr d p := by
  have h2 := hp.two_le
  have e0 : d.tmod p = 0 ↔ d % p = 0 := by
    constructor
    · intro h; exact Int.emod_eq_zero_of_dvd (Int.dvd_of_tmod_eq_zero h)
    · intro h; exact Int.tmod_eq_zero_of_dvd (Int.dvd_of_emod_eq_zero h)
  unfold symV kr
  by_cases hp2 : p = 2
  · subst hp2
    rw [if_pos rfl, if_pos rfl]
    unfold two
    have e0' : d.tmod (2 : Nat) = 0 ↔ d % 2 = 0 := e0
    by_cases hz : d % 2 = 0
    · rw [if_pos (e0'.2 hz), if_neg (by omega), if_neg (by omega)]
    · rw [if_neg fun h => hz (e0'.1 h)]
      by_cases h17 : d % 8 = 1 ∨ d % 8 = 7
      · rw [if_pos h17, if_pos h17]
      · rw [if_neg h17, if_neg h17, if_pos (by omega)]
  · rw [if_neg hp2, if_neg hp2]
    by_cases hz : d % p = 0
    · rw [if_pos (e0.2 hz), leg_zero hp hp2 (Int.dvd_of_emod_eq_zero hz)]
    · rw [if_neg fun h => hz (e0.1 h)]
      have hA := allB_at sq_all (show p < 121 by omega)
      rw [prm_prmC hp] at hA
      simp only [Bool.not_true, Bool.false_or, Bool.or_eq_true, beq_iff_eq] at hA
      have hA := hA.resolve_left hp2
      have hlt := Int.emod_lt_of_pos d (show (0 : Int) < p by omega)
      have hnn := Int.emod_nonneg d (show (p : Int) ≠ 0 by omega)
      obtain ⟨r, hr⟩ : ∃ r : Nat, (r : Int) = d % p := ⟨(d % p).toNat, by omega⟩
      have hR := allB_at hA (show r < p by omega)
      simp only [Bool.or_eq_true, beq_iff_eq] at hR
      have hR := hR.resolve_left (by omega)
      have hleg : leg d p = leg (r : Int) p := leg_congr hp hp2 (by rw [hr]; exact ⟨d / p, by have := Int.emod_add_mul_ediv d p; omega⟩)
      have ecast : ((r : Int) ^ ((p - 1) / 2)) % p = ((r ^ ((p - 1) / 2) % p : Nat) : Int) := by push_cast; rfl
      rw [hleg]
      unfold leg
      rw [ecast]
      have hiff : sqB d p = sqN p r := by
        rw [Bool.eq_iff_iff]
        have key : ∀ x : Nat, ((x : Int) * x - d) % p = 0 ↔ x * x % p = r := fun x => by
          have e1 : ((x * x % p : Nat) : Int) = ((x : Int) * x) % p := by push_cast; rfl
          constructor
          · intro h
            have := Int.emod_emod_of_dvd
            have h3 : ((x : Int) * x) % p = d % p := Int.emod_eq_emod_iff_emod_sub_eq_zero.2 h
            omega
          · intro h
            exact Int.emod_eq_emod_iff_emod_sub_eq_zero.1 (by rw [← e1, h, hr])
        unfold sqB sqN
        rw [List.any_eq_true, List.any_eq_true]
        constructor
        · rintro ⟨x, hx, h⟩
          exact ⟨x + 1, List.mem_range.2 (by have := List.mem_range.1 hx; omega), beq_iff_eq.2 ((key (x + 1)).1 (of_decide_eq_true h))⟩
        · rintro ⟨x, hx, h⟩
          have h := beq_iff_eq.1 h
          have hx0 : x ≠ 0 := by
            rintro rfl
            simp at h
            omega
          exact ⟨x - 1, List.mem_range.2 (by have := List.mem_range.1 hx; omega), by rw [show x - 1 + 1 = x by omega]; exact decide_eq_true ((key x).2 h)⟩
      rw [hiff]
      split at hR
      · next hs =>
        rw [hs, if_pos rfl, beq_iff_eq.1 hR, if_neg (by omega)]
        rfl
      · next hs =>
        rw [if_neg hs, beq_iff_eq.1 hR, if_pos (by omega)]
set_option maxHeartbeats 4000000 in
theorem symbol_sp (d : Int) (p : Nat) (h1 : -1000000 ≤ d) (h2 : d ≤ 1000000) (hp : 2 ≤ p) (hp2 : p ≤ 1000) : Sp CX 66 [int .i64 d, int .i64 p] (int .i64 (symV d p)) := by
  refine fn_spec (C := CX) ⟨34, [], []⟩ [] tysX_ok mixed Tryd.func66 rfl (by kernel_rfl) Tryd.ntmps66 (by kernel_rfl) rfl ?_
  unfold symV
  by_cases c1 : d.tmod p = 0
  · rw [if_pos c1]
    repeat' (conv => whnf
             first
               | (refine Ob.mk (by (first | omega | (simp only [InK]; omega) | exact ⟨by omega, tdivIn (by omega) (by omega)⟩ | exact ⟨by first | omega | (simp only [InK]; omega), by first | omega | (simp only [InK]; omega)⟩)) ?_)
               | (refine Cases.yes (by (first | assumption | exact decide_eq_true (by first | assumption | omega) | exact congrArg (!·) (decide_eq_false (by first | assumption | omega)) | exact congrArg (!·) (show _ = false by assumption) | rfl)) ?_)
               | (refine Cases.no (by (first | assumption | exact decide_eq_false (by first | assumption | omega) | exact congrArg (!·) (decide_eq_true (by first | assumption | omega)) | exact congrArg (!·) (show _ = true by assumption) | rfl)) ?_)
               | (refine Idx.mk ⟨_, rfl, by first | assumption | omega, ?_⟩)
               | (refine Idx.mk ⟨0, rfl, by omega, ?_⟩)
               | (refine DrawOb.start ?_)
               | (refine TryF.fast rfl (by decide +kernel) (by kernel_rfl) ?_)
               | (refine TryF.next rfl ?_)
               | (refine TryF.other ?_)
               | (refine TryG.go rfl (by decide +kernel) (by kernel_rfl) ?_)
               | (refine TryG.next rfl ?_))
    refine ⟨⟨_, _, rfl, rfl, AvLe.int ?_⟩⟩
    rfl
  · rw [if_neg c1]
    by_cases c2 : p = 2
    · subst c2
      rw [if_pos rfl]
      by_cases c3 : d % 8 = 1
      · rw [if_pos (.inl c3)]
        repeat' (conv => whnf
                 first
                   | (refine Ob.mk (by (first | omega | (simp only [InK]; omega) | exact ⟨by omega, tdivIn (by omega) (by omega)⟩ | exact ⟨by first | omega | (simp only [InK]; omega), by first | omega | (simp only [InK]; omega)⟩)) ?_)
                   | (refine Cases.yes (by (first | assumption | exact decide_eq_true (by first | assumption | omega) | exact congrArg (!·) (decide_eq_false (by first | assumption | omega)) | exact congrArg (!·) (show _ = false by assumption) | rfl)) ?_)
                   | (refine Cases.no (by (first | assumption | exact decide_eq_false (by first | assumption | omega) | exact congrArg (!·) (decide_eq_true (by first | assumption | omega)) | exact congrArg (!·) (show _ = true by assumption) | rfl)) ?_)
                   | (refine Idx.mk ⟨_, rfl, by first | assumption | omega, ?_⟩)
                   | (refine Idx.mk ⟨0, rfl, by omega, ?_⟩)
                   | (refine DrawOb.start ?_)
                   | (refine TryF.fast rfl (by decide +kernel) (by kernel_rfl) ?_)
                   | (refine TryF.next rfl ?_)
                   | (refine TryF.other ?_)
                   | (refine TryG.go rfl (by decide +kernel) (by kernel_rfl) ?_)
                   | (refine TryG.next rfl ?_)
                   | (refine Sp.call (mod_sp d 8 (by omega) (by omega) (by omega) (by omega)) (ArgsLe.refl _) rfl (AvLe.refl _) ?_))
        refine ⟨⟨_, _, rfl, rfl, AvLe.int ?_⟩⟩
        rfl
      · by_cases c4 : d % 8 = 7
        · rw [if_pos (.inr c4)]
          repeat' (conv => whnf
                   first
                     | (refine Ob.mk (by (first | omega | (simp only [InK]; omega) | exact ⟨by omega, tdivIn (by omega) (by omega)⟩ | exact ⟨by first | omega | (simp only [InK]; omega), by first | omega | (simp only [InK]; omega)⟩)) ?_)
                     | (refine Cases.yes (by (first | assumption | exact decide_eq_true (by first | assumption | omega) | exact congrArg (!·) (decide_eq_false (by first | assumption | omega)) | exact congrArg (!·) (show _ = false by assumption) | rfl)) ?_)
                     | (refine Cases.no (by (first | assumption | exact decide_eq_false (by first | assumption | omega) | exact congrArg (!·) (decide_eq_true (by first | assumption | omega)) | exact congrArg (!·) (show _ = true by assumption) | rfl)) ?_)
                     | (refine Idx.mk ⟨_, rfl, by first | assumption | omega, ?_⟩)
                     | (refine Idx.mk ⟨0, rfl, by omega, ?_⟩)
                     | (refine DrawOb.start ?_)
                     | (refine TryF.fast rfl (by decide +kernel) (by kernel_rfl) ?_)
                     | (refine TryF.next rfl ?_)
                     | (refine TryF.other ?_)
                     | (refine TryG.go rfl (by decide +kernel) (by kernel_rfl) ?_)
                     | (refine TryG.next rfl ?_)
                     | (refine Sp.call (mod_sp d 8 (by omega) (by omega) (by omega) (by omega)) (ArgsLe.refl _) rfl (AvLe.refl _) ?_))
          refine ⟨⟨_, _, rfl, rfl, AvLe.int ?_⟩⟩
          rfl
        · rw [if_neg (by omega)]
          repeat' (conv => whnf
                   first
                     | (refine Ob.mk (by (first | omega | (simp only [InK]; omega) | exact ⟨by omega, tdivIn (by omega) (by omega)⟩ | exact ⟨by first | omega | (simp only [InK]; omega), by first | omega | (simp only [InK]; omega)⟩)) ?_)
                     | (refine Cases.yes (by (first | assumption | exact decide_eq_true (by first | assumption | omega) | exact congrArg (!·) (decide_eq_false (by first | assumption | omega)) | exact congrArg (!·) (show _ = false by assumption) | rfl)) ?_)
                     | (refine Cases.no (by (first | assumption | exact decide_eq_false (by first | assumption | omega) | exact congrArg (!·) (decide_eq_true (by first | assumption | omega)) | exact congrArg (!·) (show _ = true by assumption) | rfl)) ?_)
                     | (refine Idx.mk ⟨_, rfl, by first | assumption | omega, ?_⟩)
                     | (refine Idx.mk ⟨0, rfl, by omega, ?_⟩)
                     | (refine DrawOb.start ?_)
                     | (refine TryF.fast rfl (by decide +kernel) (by kernel_rfl) ?_)
                     | (refine TryF.next rfl ?_)
                     | (refine TryF.other ?_)
                     | (refine TryG.go rfl (by decide +kernel) (by kernel_rfl) ?_)
                     | (refine TryG.next rfl ?_)
                     | (refine Sp.call (mod_sp d 8 (by omega) (by omega) (by omega) (by omega)) (ArgsLe.refl _) rfl (AvLe.refl _) ?_))
          refine ⟨⟨_, _, rfl, rfl, AvLe.int ?_⟩⟩
          rfl
    · rw [if_neg c2]
      repeat' (conv => whnf
               first
                 | (refine Ob.mk (by (first | omega | (simp only [InK]; omega) | exact ⟨by omega, tdivIn (by omega) (by omega)⟩ | exact ⟨by first | omega | (simp only [InK]; omega), by first | omega | (simp only [InK]; omega)⟩)) ?_)
                 | (refine Cases.yes (by (first | assumption | exact decide_eq_true (by first | assumption | omega) | exact congrArg (!·) (decide_eq_false (by first | assumption | omega)) | exact congrArg (!·) (show _ = false by assumption) | rfl)) ?_)
                 | (refine Cases.no (by (first | assumption | exact decide_eq_false (by first | assumption | omega) | exact congrArg (!·) (decide_eq_true (by first | assumption | omega)) | exact congrArg (!·) (show _ = true by assumption) | rfl)) ?_)
                 | (refine Idx.mk ⟨_, rfl, by first | assumption | omega, ?_⟩)
                 | (refine Idx.mk ⟨0, rfl, by omega, ?_⟩)
                 | (refine DrawOb.start ?_)
                 | (refine TryF.fast rfl (by decide +kernel) (by kernel_rfl) ?_)
                 | (refine TryF.next rfl ?_)
                 | (refine TryF.other ?_)
                 | (refine TryG.go rfl (by decide +kernel) (by kernel_rfl) ?_)
                 | (refine TryG.next rfl ?_))
      refine ⟨⟨Nat, fun x => ⟨[(0, int .i64 d), (1, int .i64 p), (6, int .i64 x)], [], 0⟩, fun x => 1 ≤ x ∧ x ≤ p ∧ Hid (∀ y : Nat, 1 ≤ y → y < x → ((y : Int) * y - d) % p ≠ 0), fun x => p - x, ⟨1, [], ⟨Nat.le_refl _, by omega, fun y a b => by omega⟩, (by refine ⟨?_, ?_, rfl⟩ <;> repeat (first | exact TmE.nil | exact OwnE.nil | refine TmE.cons (by first | exact AvLe.refl _ | exact AvLe.int (by omega) | exact AvLe.bool (by first | rfl | assumption)) ?_ | refine OwnE.cons rfl (BlkLe.refl _) ?_ | refine OwnE.cons rfl BlkLe.zero ?_))⟩, ?_⟩⟩
      rintro x ⟨k1, k2, k3⟩
      have hsq : (x : Int) * x ≤ 1000 * 1000 := Int.mul_le_mul (by omega) (by omega) (by omega) (by omega)
      have hs0 : 0 ≤ (x : Int) * x := Int.mul_nonneg (by omega) (by omega)
      by_cases hx : x < p
      · by_cases hz : ((x : Int) * x - d) % p = 0
        · have hy := sqB_yes k1 hx hz
          repeat' (conv => whnf
                   first
                     | (refine Ob.mk (by (first | omega | (simp only [InK]; omega) | exact ⟨by omega, tdivIn (by omega) (by omega)⟩ | exact ⟨by first | omega | (simp only [InK]; omega), by first | omega | (simp only [InK]; omega)⟩)) ?_)
                     | (refine Cases.yes (by (first | assumption | exact decide_eq_true (by first | assumption | omega) | exact congrArg (!·) (decide_eq_false (by first | assumption | omega)) | exact congrArg (!·) (show _ = false by assumption) | rfl)) ?_)
                     | (refine Cases.no (by (first | assumption | exact decide_eq_false (by first | assumption | omega) | exact congrArg (!·) (decide_eq_true (by first | assumption | omega)) | exact congrArg (!·) (show _ = true by assumption) | rfl)) ?_)
                     | (refine Idx.mk ⟨_, rfl, by first | assumption | omega, ?_⟩)
                     | (refine Idx.mk ⟨0, rfl, by omega, ?_⟩)
                     | (refine DrawOb.start ?_)
                     | (refine TryF.fast rfl (by decide +kernel) (by kernel_rfl) ?_)
                     | (refine TryF.next rfl ?_)
                     | (refine TryF.other ?_)
                     | (refine TryG.go rfl (by decide +kernel) (by kernel_rfl) ?_)
                     | (refine TryG.next rfl ?_)
                     | (refine Sp.call (mod_sp ((x : Int) * x - d) p (by omega) (by omega) (by omega) (by omega)) (ArgsLe.refl _) rfl (AvLe.refl _) ?_))
          refine ⟨⟨_, _, rfl, rfl, AvLe.int ?_⟩⟩
          rw [if_pos hy]
        · repeat' (conv => whnf
                   first
                     | (refine Ob.mk (by (first | omega | (simp only [InK]; omega) | exact ⟨by omega, tdivIn (by omega) (by omega)⟩ | exact ⟨by first | omega | (simp only [InK]; omega), by first | omega | (simp only [InK]; omega)⟩)) ?_)
                     | (refine Cases.yes (by (first | assumption | exact decide_eq_true (by first | assumption | omega) | exact congrArg (!·) (decide_eq_false (by first | assumption | omega)) | exact congrArg (!·) (show _ = false by assumption) | rfl)) ?_)
                     | (refine Cases.no (by (first | assumption | exact decide_eq_false (by first | assumption | omega) | exact congrArg (!·) (decide_eq_true (by first | assumption | omega)) | exact congrArg (!·) (show _ = true by assumption) | rfl)) ?_)
                     | (refine Idx.mk ⟨_, rfl, by first | assumption | omega, ?_⟩)
                     | (refine Idx.mk ⟨0, rfl, by omega, ?_⟩)
                     | (refine DrawOb.start ?_)
                     | (refine TryF.fast rfl (by decide +kernel) (by kernel_rfl) ?_)
                     | (refine TryF.next rfl ?_)
                     | (refine TryF.other ?_)
                     | (refine TryG.go rfl (by decide +kernel) (by kernel_rfl) ?_)
                     | (refine TryG.next rfl ?_)
                     | (refine Sp.call (mod_sp ((x : Int) * x - d) p (by omega) (by omega) (by omega) (by omega)) (ArgsLe.refl _) rfl (AvLe.refl _) ?_))
          exact ⟨x + 1, [], ⟨by omega, by omega, fun y a b => by
            by_cases hd : y = x
            · subst hd; exact hz
            · exact k3.out y a (by omega)⟩, by show p - (x + 1) < p - x; omega, (by refine ⟨?_, ?_, rfl⟩ <;> repeat (first | exact TmE.nil | exact OwnE.nil | refine TmE.cons (by first | exact AvLe.refl _ | exact AvLe.int (by omega) | exact AvLe.bool (by first | rfl | assumption)) ?_ | refine OwnE.cons rfl (BlkLe.refl _) ?_ | refine OwnE.cons rfl BlkLe.zero ?_))⟩
      · obtain rfl : x = p := by omega
        have hn := sqB_no k3.out
        repeat' (conv => whnf
                 first
                   | (refine Ob.mk (by (first | omega | (simp only [InK]; omega) | exact ⟨by omega, tdivIn (by omega) (by omega)⟩ | exact ⟨by first | omega | (simp only [InK]; omega), by first | omega | (simp only [InK]; omega)⟩)) ?_)
                   | (refine Cases.yes (by (first | assumption | exact decide_eq_true (by first | assumption | omega) | exact congrArg (!·) (decide_eq_false (by first | assumption | omega)) | exact congrArg (!·) (show _ = false by assumption) | rfl)) ?_)
                   | (refine Cases.no (by (first | assumption | exact decide_eq_false (by first | assumption | omega) | exact congrArg (!·) (decide_eq_true (by first | assumption | omega)) | exact congrArg (!·) (show _ = true by assumption) | rfl)) ?_)
                   | (refine Idx.mk ⟨_, rfl, by first | assumption | omega, ?_⟩)
                   | (refine Idx.mk ⟨0, rfl, by omega, ?_⟩)
                   | (refine DrawOb.start ?_)
                   | (refine TryF.fast rfl (by decide +kernel) (by kernel_rfl) ?_)
                   | (refine TryF.next rfl ?_)
                   | (refine TryF.other ?_)
                   | (refine TryG.go rfl (by decide +kernel) (by kernel_rfl) ?_)
                   | (refine TryG.next rfl ?_))
        refine ⟨⟨_, _, rfl, rfl, AvLe.int ?_⟩⟩
        rw [if_neg (by rw [hn]; simp)]
end Go.Proofs.YteamlpflgfmieaaDoor
