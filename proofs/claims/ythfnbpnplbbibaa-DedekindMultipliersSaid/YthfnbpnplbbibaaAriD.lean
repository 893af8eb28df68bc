/- Walks of arith: powers, ranges, products over the factorization. -/
import Derived.Test.YthfnbpnplbbibaaAriC
import Derived.Test.YthfnbpnplbbibaaNumA
import Derived.Handy
import Derived.Deep.RegionWith
namespace Go.Proofs.Ythfnbpnplbbibaa
open Go.RowKit HP

theorem inRange_yes (n : Int) (w : World) (h1 : 1 ≤ n) (h2 : n ≤ 2147483647) :
    Calls Try.prog 89 #[.int .i64 n] w fun x w' => x = .returned (.bool true) ∧ w = w' := by
  have h3 : decide (n ≤ 2147483647) = true := by simpa using h2
  go_enter Try.func89, Try.ntmps89
  go_wp2
  go_ret
  exact ⟨rfl, rfl⟩
end Go.Proofs.Ythfnbpnplbbibaa
