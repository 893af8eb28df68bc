/- The walk of the law's own 'awake'. -/
import Derived.Test.YtedfcemebdlgfaaGreatDoorAriF
namespace Go.Proofs.YtedfcemebdlgfaaGreatDoor
open Go.RowKit HP

theorem TabW.below {w w' : World} {B : Nat} (h : TabW w) (hb : Below B w w') (hB : 0 < B) : TabW w' := fun j hj => (hb.cell (p := ⟨0, j, none⟩) hB).trans (h j hj)
theorem TabW.alloc {w : World} (h : TabW w) (hB : 0 < w.heap.size) (o : Obj) : TabW (w.alloc o) := fun j hj => (World.cell?_alloc_past _ _ _ hB).trans (h j hj)

theorem facs_12 : facs 12 = [(2, 2), (3, 1)] := by
  have h2 : lpf 12 = 2 := by decide
  have m2 : mlt 2 12 = 2 := by rw [mlt_yes (by omega) (by omega) (by omega), mlt_yes (by omega) (by omega) (by omega), mlt_no (by omega)]
  have s2 : strip 2 12 = 3 := by unfold strip; rw [m2]
  have p3 : Prm 3 := prm_of_least (n := 3) (Nat.dvd_refl _) (by omega) (fun e h1 h2 => by have : e = 2 := by omega
                                                                                          subst this; decide)
  rw [facs_big (by omega), h2, m2, s2, facs_prime p3]
theorem phi_12 : phi 12 = 4 := by unfold phi; rw [facs_12]; rfl
theorem prm_7 : Prm 7 := prm_of_least (n := 7) (Nat.dvd_refl _) (by omega) (fun e h1 h2 => by
  have : e = 2 ∨ e = 3 ∨ e = 4 ∨ e = 5 ∨ e = 6 := by omega
  rcases this with rfl | rfl | rfl | rfl | rfl <;> decide)
theorem kro_47 : kro (-4) 7 = -1 := by
  rw [kro_pos (by omega)]
  show jac (-4) 7 = -1
  rw [jac_prime _ prm_7, kr, if_neg (by omega)]
  decide
theorem crt_2446 : crt (0, 1) [(2, 4), (4, 6)] = .ok (10, 12) := by rfl
theorem cgr_2446 (w : World) (t : TypeId) : CgrAt (w.alloc (.cells #[.int .i64 2, .int .i64 4, .int .i64 4, .int .i64 6] t)) w.heap.size 0 [(2, 4), (4, 6)] := by
  intro i r m h
  match i, h with
  | 0, h =>
    simp only [List.getElem?_cons_zero, Option.some.injEq, Prod.mk.injEq] at h
    obtain ⟨rfl, rfl⟩ := h
    exact ⟨by rw [World.cell?_alloc_at _ _ _ _ rfl]; rfl, by rw [World.cell?_alloc_at _ _ _ _ rfl]; rfl⟩
  | 1, h =>
    simp only [List.getElem?_cons_succ, List.getElem?_cons_zero, Option.some.injEq, Prod.mk.injEq] at h
    obtain ⟨rfl, rfl⟩ := h
    exact ⟨by rw [World.cell?_alloc_at _ _ _ _ rfl]; rfl, by rw [World.cell?_alloc_at _ _ _ _ rfl]; rfl⟩
  | i + 2, h => simp at h

end Go.Proofs.YtedfcemebdlgfaaGreatDoor
