/- Own texts joined: DmA, DmB. -/
import Derived.Test.YtedfcemebdlgfaaDoorPkVgV
/- States in letters: Kronecker's symbol of the reference; the formulas. -/
namespace Go.Proofs.YtedfcemebdlgfaaDoor
open Go Go.RowKit Go.VG HP
/-- the numbers that Psi and lambda may take -/
theorem psi_small {n : Nat} (h1 : 1 ≤ n) (h2 : n ≤ 120) : 1 ≤ psi n ∧ psi n ≤ 400 := by
  have h : allB 121 (fun n => decide (n = 0) || (decide (1 ≤ prodC psiF n) && decide (prodC psiF n ≤ 400))) = true := by decide +kernel
  have := allB_at h (show n < 121 by omega)
  simp only [Bool.or_eq_true, Bool.and_eq_true, decide_eq_true_eq] at this
  rw [psi_C h1 h2]
  exact this.resolve_left (by omega)
end Go.Proofs.YtedfcemebdlgfaaDoor

/- States in letters: the program's dimension formula; beta; the sums of the reference. -/
namespace Go.Proofs.YtedfcemebdlgfaaDoor
open Go Go.RowKit Go.VG HP
def specA (L K D : Int) : AV := .v (.agg [ix L, ix K, ix D])
end Go.Proofs.YtedfcemebdlgfaaDoor

