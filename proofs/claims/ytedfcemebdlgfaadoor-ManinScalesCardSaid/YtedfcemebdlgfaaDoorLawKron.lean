/- The law ArithKronecker: its walk. -/
import Derived.Test.YtedfcemebdlgfaaDoorRefD
namespace Go.Proofs.YtedfcemebdlgfaaDoor
open Go.RowKit HP

theorem rkro_any (a n : Int) (w : World) (ha1 : -9223372036854775808 ≤ a) (ha2 : a ≤ 9223372036854775807) (hn1 : -2147483647 ≤ n) (hn2 : n ≤ 2147483647) :
    Calls Tryd.prog 50 #[.int .i64 a, .int .i64 n] w fun e w' => e = .returned (.int .i64 (kro a n)) ∧ Below w.heap.size w w' := by
  by_cases h0 : n = 0
  · obtain rfl := h0
    exact rkro_zero a w
  · have e : kro a n = (if n < 0 ∧ a < 0 then -1 else 1) * jac a n.natAbs := by unfold kro; rw [if_neg h0]
    rw [e]
    refine rkro_ne a n _ n.natAbs w ha1 ha2 (by omega) (by omega) ?_
    split <;> omega

end Go.Proofs.YtedfcemebdlgfaaDoor
