/- The laws of Dedekind sums in letters, with their bounds one by one. -/
import Derived.Test.YthfnbpnplbbibaaLwB
namespace Go.Proofs.Ythfnbpnplbbibaa
open Go Go.RowKit Go.VG HP
theorem cSums (h k : Int) (h1 : -9223372036854775808 ≤ h) (h2 : h ≤ 9223372036854775807) (k1 : -9223372036854775808 ≤ k) (k2 : k ≤ 9223372036854775807) : Sp CX 3 [int .i64 h, int .i64 k] (bool true) := law_sums h k ⟨h1, h2⟩ ⟨k1, k2⟩
theorem cRecip (h k : Int) (h1 : -9223372036854775808 ≤ h) (h2 : h ≤ 9223372036854775807) (k1 : -9223372036854775808 ≤ k) (k2 : k ≤ 9223372036854775807) : Sp CX 6 [int .i64 h, int .i64 k] (bool true) := law_recip h k ⟨h1, h2⟩ ⟨k1, k2⟩
theorem cPeriods (h k i : Int) (h1 : -9223372036854775808 ≤ h) (h2 : h ≤ 9223372036854775807) (k1 : -9223372036854775808 ≤ k) (k2 : k ≤ 9223372036854775807) (i1 : -32768 ≤ i) (i2 : i ≤ 32767) : Sp CX 4 [int .i64 h, int .i64 k, int .i16 i] (bool true) := law_periods h k i ⟨h1, h2⟩ ⟨k1, k2⟩ i1 i2
end Go.Proofs.Ythfnbpnplbbibaa
