/- The reference in letters: Multiplier. -/
import Derived.Test.YthfnbpnplbbibaaPkRfA
namespace HP
end HP
namespace Go.Proofs.Ythfnbpnplbbibaa
open Go Go.RowKit Go.VG HP
/-- what a step of the reference's loop calls, and its sizes -/
structure RuStep (A D C : Int) (z : Nat) (r t : Int) (F : Int) : Prop where
  o : (z : Int) ≠ 0 ∧ InK .i64 (C.tdiv z)
  fo : Sp CX 50 [int .i64 D, int .i64 (C.tdiv z)] (int .i64 F)
  t : t = r * ((z : Int) * (A + D) * C - 3 * (z : Int) * z * F)
  p1 : -24000000 ≤ (z : Int) * (A + D) ∧ (z : Int) * (A + D) ≤ 24000000
  p2 : -36000000000 ≤ (z : Int) * (A + D) * C ∧ (z : Int) * (A + D) * C ≤ 36000000000
  p3 : -43200 ≤ 3 * (z : Int) * z ∧ 3 * (z : Int) * z ≤ 43200
  p4 : -145800000000000 ≤ 3 * (z : Int) * z * F ∧ 3 * (z : Int) * z * F ≤ 145800000000000
  p5 : -29167200000000000 ≤ r * ((z : Int) * (A + D) * C - 3 * (z : Int) * z * F) ∧ r * ((z : Int) * (A + D) * C - 3 * (z : Int) * z * F) ≤ 29167200000000000
end Go.Proofs.Ythfnbpnplbbibaa
