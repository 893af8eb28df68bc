/- Walks: Inverse, of the program and of the reference. -/
import Derived.Test.YtedfcemebdlgfaaGreatDoorRefB
import Derived.Test.YtedfcemebdlgfaaGreatDoorNumA
namespace Go.Proofs.YtedfcemebdlgfaaGreatDoor
open Go.RowKit HP

theorem ret2 {k1 k2 : IntKind} {a b a' b' : Int} (h1 : a = a') (h2 : b = b') :
    Ending.returned (.tuple #[.int k1 a, .int k2 b]) = .returned (.tuple #[.int k1 a', .int k2 b']) := by rw [h1, h2]

theorem inverse_any (a m : Int) (w : World) :
    Calls Tryz.prog 105 #[.int .i64 a, .int .i64 m] w fun x w' => x = .returned (.tuple #[.int .i64 (invOut a m).1, .int .i64 (invOut a m).2]) ∧ ∃ n, w' = w.drewN n := by
  rcases inv_cases a m with ⟨hm, e⟩ | ⟨⟨hm1, hm2⟩, hc⟩
  · rw [e]
    clear e
    go_enter Tryz.func105, Tryz.ntmps105
    go_wp2_with (go_at_call 51; refine (inRange_no m _ hm).mono ?_; rintro x w' ⟨rfl, rfl⟩)
    go_ret2
    exact ⟨rfl, 0, rfl⟩
  · have hg := gcd_emod a m
    have ha0 := Int.emod_nonneg a (show m ≠ 0 by omega)
    have ha1 := Int.emod_lt_of_pos a (show 0 < m by omega)
    have cx := fun w => xgcd_any (a % m) m w (by omega) (by omega) (by omega) hm2 (by omega)
    have CX := Lib.hid cx
    clear cx
    rcases hc with ⟨hg1, e⟩ | ⟨hg1, e⟩
    · rw [e]
      have hgb : (((Int.gcd (a % m) m : Nat) : Int) != 1) = true := by rw [bne_iff_ne, hg]; omega
      clear e hg hg1
      go_enter Tryz.func105, Tryz.ntmps105
      go_wp2_with (first
        | (go_at_call 51; refine (inRange_yes m _ hm1 hm2).mono ?_; rintro x w' ⟨rfl, rfl⟩)
        | (go_at_call 69; refine (residue_any a m _ (by omega) (by omega)).mono ?_; rintro x w' ⟨rfl, rfl⟩)
        | (go_at_call 107; refine (CX.out _).mono ?_; rintro x w' ⟨u, hu, rfl, n, rfl⟩; have HU := Lib.hid hu; clear hu))
      go_ret2
      exact ⟨rfl, _, rfl⟩
    · rw [e]
      have hgb : (((Int.gcd (a % m) m : Nat) : Int) != 1) = false := by rw [bne_eq_false_iff_eq, hg]; omega
      have hg2 : Int.gcd (a % m) m = 1 := by rw [hg]; exact hg1
      have HG2 := Lib.hid hg2
      clear e hg hg1 hg2
      go_enter Tryz.func105, Tryz.ntmps105
      go_wp2_with (first
        | (go_at_call 51; refine (inRange_yes m _ hm1 hm2).mono ?_; rintro x w' ⟨rfl, rfl⟩)
        | (go_at_call 69; refine (residue_any a m _ (by omega) (by omega)).mono ?_; rintro x w' ⟨rfl, rfl⟩)
        | (go_at_call 107; refine (CX.out _).mono ?_; rintro x w' ⟨u, hu, rfl, n, rfl⟩; have HU := Lib.hid hu; clear hu))
      go_ret2
      refine ⟨ret2 ?_ rfl, _, rfl⟩
      obtain ⟨u1, u2, u3⟩ := HU.out
      rw [HG2.out] at u2 u3
      have e := inv_of_cofactor (a := a) (m := m) (s := u) (by omega) u3
      have hmm : (m.natAbs : Int) / ((1 : Nat) : Int) = m := by simp; omega
      rw [hmm] at u2
      rw [← e, Int.emod_eq_of_lt u1 u2]
end Go.Proofs.YtedfcemebdlgfaaGreatDoor
