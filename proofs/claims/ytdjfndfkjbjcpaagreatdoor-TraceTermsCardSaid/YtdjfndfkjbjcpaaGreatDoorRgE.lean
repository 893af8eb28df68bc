/- Bigints of the reference in letters: Gcd. -/
import Derived.Test.YtdjfndfkjbjcpaaGreatDoorPkRgA
import Derived.Test.YtdjfndfkjbjcpaaGreatDoorPkTcA
namespace Go.Proofs.YtdjfndfkjbjcpaaGreatDoor
open Go Go.RowKit Go.VG HP
theorem gcd_next (m n : Nat) : Nat.gcd n (m % n) = Nat.gcd m n := by
  rw [Nat.gcd_comm n, ← Nat.gcd_rec, Nat.gcd_comm]
set_option maxHeartbeats 8000000 in
set_option maxRecDepth 20000 in
theorem rGcdB_sp (a b : Int) (ha : ln a.natAbs ≤ 2000) (hb : ln b.natAbs ≤ 2000) : Sp CX 105 [zA a, zA b] (zA ((Int.gcd a b : Nat) : Int)) := by
  have s1 := rAbs_sp a (by omega)
  have s2 := rAbs_sp b (by omega)
  obtain ⟨x, hx⟩ : ∃ x, x = a.natAbs := ⟨_, rfl⟩
  obtain ⟨y, hy⟩ : ∃ y, y = b.natAbs := ⟨_, rfl⟩
  have hG : Int.gcd a b = Nat.gcd x y := by rw [hx, hy]; rfl
  rw [hG]
  rw [← hx] at s1 ha
  rw [← hy] at s2 hb
  obtain ⟨G, eG⟩ : ∃ G, G = Nat.gcd x y := ⟨_, rfl⟩
  rw [← eG]
  clear hG hx hy
  have n1 : ln (x : Int).natAbs = ln x := rfl
  have n2 : ln (y : Int).natAbs = ln y := rfl
  by_cases hs : ln x ≤ 2 ∧ ln y ≤ 2
  · obtain ⟨l1, l2⟩ := hs
    have w1 := rword_sp x l1
    have w2 := rword_sp y l2
    have x64 := two_lt l1
    have y64 := two_lt l2
    refine fn_sp (C := CX) [] [] tysX_ok mixed Tryz.func105 rfl (by kernel_rfl) Tryz.ntmps105 rfl rfl ?_
    repeat' ((conv => whnf); first | refine Je ?_ | refine Ji ?_ | refine Jj ?_ | refine Jk rfl ?_ | refine Jl ?_ | refine Jo ?_ | refine Jq rfl ?_ | refine Jr ?_ | refine Js ?_ | refine Jt rfl ?_ | refine Jy s1 ?_ | refine Jy s2 ?_ | refine Jy w1 ?_ | refine Jy w2 ?_)
    refine ⟨⟨Nat × Nat, fun (m, n) => ⟨[(4, .v (.c (.loc 2 0))), (7, int .u64 m), (8, int .u64 n)], [(0, .st (iLs a)), (1, .st (iLs b)), (2, .st iZs)], 3⟩, fun (m, n) => m < 18446744073709551616 ∧ n < 18446744073709551616 ∧ Nat.gcd m n = G, fun (_, n) => n, ⟨(x, y), [], ⟨x64, y64, eG.symm⟩, Ent.g⟩, ?_⟩⟩
    rintro ⟨m, n⟩ ⟨m1, m2, hG⟩
    clear s1 s2 w1 w2
    by_cases hn : n = 0
    · subst hn
      rw [Nat.gcd_zero_right] at hG
      subst hG
      have sp := rsplit_sp m m1
      have lm : ln m ≤ 2 := ln_two m1
      have sg := rsigned_sp false m (ln m) (Nat.le_refl _) (by omega)
      rw [zS_eq, if_neg (by decide)] at sg
      repeat' ((conv => whnf); first | refine Jf ?_ | refine Jy sp ?_ | refine Jy sg ?_)
      refine ⟨⟨_, _, rfl, rfl, ?_⟩⟩
      exact AvLe.refl _
    · have er : (m : Int).tmod n = ((m % n : Nat) : Int) := (Int.ofNat_tmod m n).symm
      have ml : m % n < n := Nat.mod_lt _ (by omega)
      have nG : Nat.gcd n (m % n) = G := by rw [gcd_next, hG]
      repeat' ((conv => whnf); first | refine Ja ?_ | refine Je ?_ | refine Ji ?_ | refine Jk rfl ?_ | refine Jl ?_ | refine Jo ?_ | refine Jp ?_ | refine Jq rfl ?_)
      exact ⟨(n, m % n), [], ⟨m2, by omega, nG⟩, ml, by
        refine ⟨?_, ?_, rfl⟩
        · exact .cons (.refl _) (.cons (.refl _) (.cons (.int er) .nil))
        · exact .cons rfl (.refl _) (.cons rfl (.refl _) (.cons rfl (.refl _) .nil))⟩
  · by_cases l1 : ln x ≤ 2
    · have l2 : ¬ ln y ≤ 2 := fun h => hs ⟨l1, h⟩
      refine fn_sp (C := CX) [] [] tysX_ok mixed Tryz.func105 rfl (by kernel_rfl) Tryz.ntmps105 rfl rfl ?_
      repeat' ((conv => whnf); first | refine Je ?_ | refine Jf ?_ | refine Ji ?_ | refine Jk rfl ?_ | refine Jl ?_ | refine Jo ?_ | refine Jq rfl ?_ | refine Jr ?_ | refine Js ?_ | refine Jt rfl ?_ | refine Jy s1 ?_ | refine Jy s2 ?_)
      refine ⟨⟨Nat × Nat, fun (m, n) => ⟨[(4, .v (.c (.loc 2 0))), (5, .v (.c (.loc 3 0))), (6, .v (.c (.loc 4 0)))], [(0, .st (iLs a)), (1, .st (iLs b)), (2, .st iZs), (3, .st (iLs (m : Int))), (4, .st (iLs (n : Int)))], 5⟩, fun (m, n) => ln m ≤ 2000 ∧ ln n ≤ 2000 ∧ Nat.gcd m n = G, fun (_, n) => n, ⟨(x, y), [.s 3 7, .s 4 8], ⟨ha, hb, eG.symm⟩, Ent.g⟩, ?_⟩⟩
      rintro ⟨m, n⟩ ⟨m1, m2, hG⟩
      clear s1 s2
      have n3 : ln (n : Int).natAbs = ln n := rfl
      by_cases hn : n = 0
      · subst hn
        rw [Nat.gcd_zero_right] at hG
        subst hG
        have n4 : ln ((0 : Nat) : Int).natAbs = 0 := by decide
        repeat' ((conv => whnf); first | refine Jf ?_)
        refine ⟨⟨_, _, rfl, rfl, ?_⟩⟩
        exact AvLe.refl _
      · have l := ln_pos (x := n) (by omega)
        have eu := rEuclid_sp (m : Int) n (by omega) m1 m2 (.inl (by omega))
        have er : (m : Int) % n = ((m % n : Nat) : Int) := (Int.natCast_emod m n).symm
        have ml : m % n < n := Nat.mod_lt _ (by omega)
        have nG : Nat.gcd n (m % n) = G := by rw [gcd_next, hG]
        have l3 : ln (m % n) ≤ 2000 := Nat.le_trans (ln_mono (Nat.le_of_lt ml)) m2
        rw [er] at eu
        generalize m % n = r at *
        generalize (m : Int) / n = q at *
        repeat' ((conv => whnf); first | refine Je ?_ | refine Jy eu ?_)
        exact ⟨(n, r), [], ⟨m2, l3, nG⟩, ml, Ent.g⟩
    · refine fn_sp (C := CX) [] [] tysX_ok mixed Tryz.func105 rfl (by kernel_rfl) Tryz.ntmps105 rfl rfl ?_
      repeat' ((conv => whnf); first | refine Jf ?_ | refine Ji ?_ | refine Jk rfl ?_ | refine Jl ?_ | refine Jo ?_ | refine Jq rfl ?_ | refine Jr ?_ | refine Js ?_ | refine Jt rfl ?_ | refine Jy s1 ?_ | refine Jy s2 ?_)
      refine ⟨⟨Nat × Nat, fun (m, n) => ⟨[(4, .v (.c (.loc 2 0))), (5, .v (.c (.loc 3 0))), (6, .v (.c (.loc 4 0)))], [(0, .st (iLs a)), (1, .st (iLs b)), (2, .st iZs), (3, .st (iLs (m : Int))), (4, .st (iLs (n : Int)))], 5⟩, fun (m, n) => ln m ≤ 2000 ∧ ln n ≤ 2000 ∧ Nat.gcd m n = G, fun (_, n) => n, ⟨(x, y), [.s 3 7, .s 4 8], ⟨ha, hb, eG.symm⟩, Ent.g⟩, ?_⟩⟩
      rintro ⟨m, n⟩ ⟨m1, m2, hG⟩
      clear s1 s2
      have n3 : ln (n : Int).natAbs = ln n := rfl
      by_cases hn : n = 0
      · subst hn
        rw [Nat.gcd_zero_right] at hG
        subst hG
        have n4 : ln ((0 : Nat) : Int).natAbs = 0 := by decide
        repeat' ((conv => whnf); first | refine Jf ?_)
        refine ⟨⟨_, _, rfl, rfl, ?_⟩⟩
        exact AvLe.refl _
      · have l := ln_pos (x := n) (by omega)
        have eu := rEuclid_sp (m : Int) n (by omega) m1 m2 (.inl (by omega))
        have er : (m : Int) % n = ((m % n : Nat) : Int) := (Int.natCast_emod m n).symm
        have ml : m % n < n := Nat.mod_lt _ (by omega)
        have nG : Nat.gcd n (m % n) = G := by rw [gcd_next, hG]
        have l3 : ln (m % n) ≤ 2000 := Nat.le_trans (ln_mono (Nat.le_of_lt ml)) m2
        rw [er] at eu
        generalize m % n = r at *
        generalize (m : Int) / n = q at *
        repeat' ((conv => whnf); first | refine Je ?_ | refine Jy eu ?_)
        exact ⟨(n, r), [], ⟨m2, l3, nG⟩, ml, Ent.g⟩
end Go.Proofs.YtdjfndfkjbjcpaaGreatDoor
