/- The statements about traces: the fixed calls; dimensions. -/
import Derived.Test.YtdjfndfkjbjcpaaGreatDoorTcE
import Derived.Test.YtdjfndfkjbjcpaaGreatDoorPkTrA
import Derived.Test.YtdjfndfkjbjcpaaGreatDoorPkDmK
import Derived.Test.YtdjfndfkjbjcpaaGreatDoorPkBnA
namespace Go.Proofs.YtdjfndfkjbjcpaaGreatDoor
open Go Go.RowKit Go.VG HP
theorem T12_K {N k n : Nat} {Δ : Int} (ok : DOk N k Δ) (hn : Nat.gcd n N = 1) (n1 : 1 ≤ n) (n2 : n ≤ 128) :
    T12 N k Δ n = totP N k Δ n (tabA N (chiR N Δ N) n (tabT n (2 * n + 3))) (tabH N Δ n (dvs N) (dvs n)) := T12_P ok.n0 ok.n1 ok.dz ok.d4 ok.dvd hn n1 n2
theorem dok_one {k : Nat} (h1 : 2 ≤ k) (h2 : k ≤ 24) (h3 : k % 2 = 0) : DOk 1 k 1 := by
  refine ⟨by omega, by omega, h1, h2, by omega, by omega, by omega, by omega, .inl rfl, by decide, by omega, ?_⟩
  rw [psi_C (by omega) (by omega), show prodC psiF 1 = 1 by decide +kernel]
  omega
theorem awk32a : T12 11 2 1 2 = -24 := by
  rw [T12_K dok3 (by decide) (by omega) (by omega)]
  decide +kernel
theorem awk32b : T12 1 12 1 2 = -288 := by
  rw [T12_K (dok_one (by omega) (by omega) (by omega)) (by decide) (by omega) (by omega)]
  decide +kernel
theorem awk32c : fixZ 11 = 4 := by decide +kernel
theorem tawake_sp : Sp CX 5 [] (bool true) := by
  have s1 := Trace_ok 11 2 2 1 dok3 (by omega) (by omega) (by decide) (by rw [awk32a]; decide)
  have s2 := Trace_ok 1 12 2 1 (dok_one (by omega) (by omega) (by omega)) (by omega) (by omega) (by decide) (by rw [awk32b]; decide)
  have s3 := Fixed_ok 11 (by omega) (by omega)
  rw [awk32a] at s1
  rw [awk32b] at s2
  rw [awk32c] at s3
  have z1 := Z_sp (-2) (by omega) (by omega)
  have z2 := Z_sp (-24) (by omega) (by omega)
  have e1 := SameInt_sp (-2) (by decide)
  have e2 := SameInt_sp (-24) (by decide)
  refine fn_sp (C := CX) [] [] tysX_ok mixed Tryz.func5 rfl (by kernel_rfl) Tryz.ntmps5 rfl rfl ?_
  repeat' ((conv => whnf); first | refine Je ?_ | refine Ji ?_ | refine Jj ?_ | refine Jk rfl ?_ | refine Jy s1 ?_ | refine Jy s2 ?_ | refine Jy s3 ?_ | refine Jy z1 ?_ | refine Jy z2 ?_ | refine Jy e1 ?_ | refine Jy e2 ?_)
  refine ⟨⟨_, _, rfl, rfl, ?_⟩⟩
  exact AvLe.bool rfl
end Go.Proofs.YtdjfndfkjbjcpaaGreatDoor
