/- Own texts joined: DmK, DmM. -/
import Derived.Test.YtdjfndfkjbjcpaaGreatDoorPkDmH
/- Signatures: their checks and dimensions, on both sides. -/
namespace Go.Proofs.YtdjfndfkjbjcpaaGreatDoor
open Go Go.RowKit Go.VG HP
def six (I G N2 N3 C R : Int) : Prop := (0 ≤ I ∧ I ≤ 10000) ∧ (0 ≤ G ∧ G ≤ 10000) ∧ (0 ≤ N2 ∧ N2 ≤ 10000) ∧ (0 ≤ N3 ∧ N3 ≤ 10000) ∧ (0 ≤ C ∧ C ≤ 10000) ∧ (0 ≤ R ∧ R ≤ 10000)
instance (I G N2 N3 C R : Int) : Decidable (six I G N2 N3 C R) := by unfold six; infer_instance
def formB (I G N2 N3 C R : Int) (M : Bool) : Prop := C < R ∨ (M = true ∧ 0 < R) ∨ (M = false ∧ (0 < N2 ∨ (C - R) % 2 ≠ 0)) ∨ 12 * G ≠ 12 + I - 3 * N2 - 4 * N3 - 6 * C
instance (I G N2 N3 C R : Int) (M : Bool) : Decidable (formB I G N2 N3 C R M) := by unfold formB; infer_instance
section
variable {I G N2 N3 C R K : Int} {M : Bool}
end
end Go.Proofs.YtdjfndfkjbjcpaaGreatDoor

/- What the kernel can reckon; the fixed calls. -/
namespace Go.Proofs.YtdjfndfkjbjcpaaGreatDoor
open Go Go.RowKit Go.VG HP
theorem dok3 : DOk 11 2 1 := by
  refine ⟨by omega, by omega, by omega, by omega, by omega, by omega, by omega, by omega, .inl rfl, by decide, by decide, ?_⟩
  rw [psi_C (by omega) (by omega)]
  decide +kernel
end Go.Proofs.YtdjfndfkjbjcpaaGreatDoor

