/- Walks of arith: the extended Euclidean algorithm, inverses. -/
import Derived.Test.YteamlpflgfmieaaDoorAriD
import Derived.Test.YteamlpflgfmieaaDoorNumA
namespace Go.Proofs.YteamlpflgfmieaaDoor
open Go.RowKit HP

theorem results_tmp4 {fn : Func} {t u v x : Tmp} (h : fn.results = #[.tmp t, .tmp u, .tmp v, .tmp x]) (tmps : Array Value) (P : Program) (w : World) :
    (results fn tmps).run P w = .ok (.tuple #[tmps.getD t undef, tmps.getD u undef, tmps.getD v undef, tmps.getD x undef]) w := by simp [results, h]

theorem ret4 {k1 k2 k3 k4 : IntKind} {a b c d a' b' c' d' : Int} (h1 : a = a') (h2 : b = b') (h3 : c = c') (h4 : d = d') :
    Ending.returned (.tuple #[.int k1 a, .int k2 b, .int k3 c, .int k4 d]) = .returned (.tuple #[.int k1 a', .int k2 b', .int k3 c', .int k4 d']) := by rw [h1, h2, h3, h4]

theorem mul31 {x y : Nat} (hx : x ≤ 2147483647) (hy : y ≤ 2147483647) : x * y ≤ 4611686014132420609 := by
  have := Nat.mul_le_mul_right y hx
  omega
/-- what the extended algorithm gives where b is not 0 -/
def XGot (a b : Int) (w : World) (x : Ending) (w' : World) : Prop :=
  ∃ u : Int, XU a b u ∧ x = .returned (.tuple #[.int .i64 (Int.gcd a b), .int .i64 u, .int .i64 ((Int.gcd a b - u * a) / b), .int .i64 0]) ∧ ∃ m, w' = w.drewN m

end Go.Proofs.YteamlpflgfmieaaDoor
