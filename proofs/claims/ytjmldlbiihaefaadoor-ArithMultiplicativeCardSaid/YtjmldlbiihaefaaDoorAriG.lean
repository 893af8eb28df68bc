/- The walk of the law's own 'awake'. -/
import Derived.Test.YtjmldlbiihaefaaDoorAriF
namespace Go.Proofs.YtjmldlbiihaefaaDoor
open Go.RowKit HP

theorem TabW.below {w w' : World} {B : Nat} (h : TabW w) (hb : Below B w w') (hB : 0 < B) : TabW w' := fun j hj => (hb.cell (p := ⟨0, j, none⟩) hB).trans (h j hj)
theorem TabW.alloc {w : World} (h : TabW w) (hB : 0 < w.heap.size) (o : Obj) : TabW (w.alloc o) := fun j hj => (World.cell?_alloc_past _ _ _ hB).trans (h j hj)

theorem facs_12 : facs 12 = [(2, 2), (3, 1)] := by
  have h2 : lpf 12 = 2 := by decide
  have m2 : mlt 2 12 = 2 := by rw [mlt_yes (by omega) (by omega) (by omega), mlt_yes (by omega) (by omega) (by omega), mlt_no (by omega)]
  have s2 : strip 2 12 = 3 := by unfold strip; rw [m2]
  have p3 : Prm 3 := prm_of_least (n := 3) (Nat.dvd_refl _) (by omega) (fun e h1 h2 => by have : e = 2 := by omega
                                                                                          subst this; decide)
  rw [facs_big (by omega), h2, m2, s2, facs_prime p3]
theorem phi_12 : phi 12 = 4 := by unfold phi; rw [facs_12]; rfl
theorem prm_7 : Prm 7 := prm_of_least (n := 7) (Nat.dvd_refl _) (by omega) (fun e h1 h2 => by
  have : e = 2 ∨ e = 3 ∨ e = 4 ∨ e = 5 ∨ e = 6 := by omega
  rcases this with rfl | rfl | rfl | rfl | rfl <;> decide)
theorem kro_47 : kro (-4) 7 = -1 := by
  rw [kro_pos (by omega)]
  show jac (-4) 7 = -1
  rw [jac_prime _ prm_7, kr, if_neg (by omega)]
  decide
theorem crt_2446 : crt (0, 1) [(2, 4), (4, 6)] = .ok (10, 12) := by rfl
theorem cgr_2446 (w : World) (t : TypeId) : CgrAt (w.alloc (.cells #[.int .i64 2, .int .i64 4, .int .i64 4, .int .i64 6] t)) w.heap.size 0 [(2, 4), (4, 6)] := by
  intro i r m h
  match i, h with
  | 0, h =>
    simp only [List.getElem?_cons_zero, Option.some.injEq, Prod.mk.injEq] at h
    obtain ⟨rfl, rfl⟩ := h
    exact ⟨by rw [World.cell?_alloc_at _ _ _ _ rfl]; rfl, by rw [World.cell?_alloc_at _ _ _ _ rfl]; rfl⟩
  | 1, h =>
    simp only [List.getElem?_cons_succ, List.getElem?_cons_zero, Option.some.injEq, Prod.mk.injEq] at h
    obtain ⟨rfl, rfl⟩ := h
    exact ⟨by rw [World.cell?_alloc_at _ _ _ _ rfl]; rfl, by rw [World.cell?_alloc_at _ _ _ _ rfl]; rfl⟩
  | i + 2, h => simp at h

theorem crt_2446_any (w : World) (t : TypeId) : Calls Tryd.prog 20 #[.slice (some ⟨w.heap.size, 0, none⟩) 2 2] (w.alloc (.cells #[.int .i64 2, .int .i64 4, .int .i64 4, .int .i64 6] t)) fun x w' =>
    x = .returned (.tuple #[.agg #[.int .i64 10, .int .i64 12], .int .i64 0]) ∧ Below (w.heap.size + 1) (w.alloc (.cells #[.int .i64 2, .int .i64 4, .int .i64 4, .int .i64 6] t)) w' := by
  have c := crt_any w.heap.size 0 2 2 [(2, 4), (4, 6)] rfl (w.alloc (.cells #[.int .i64 2, .int .i64 4, .int .i64 4, .int .i64 6] t)) (by simp) (cgr_2446 _ _) (by omega)
  rw [crt_2446] at c
  exact c.mono fun x w' ⟨hx, hb⟩ => ⟨hx, hb.mono (by simp)⟩

set_option maxHeartbeats 1000000 in
theorem awake_any (w : World) (hT : TabW w) (hB : 0 < w.heap.size) :
    Calls Tryd.prog 15 #[] w fun x w' => x = .returned (.bool true) ∧ Below w.heap.size w w' := by
  have cp := fun w => phi_any 12 w (by omega) (by omega)
  rw [phi_12] at cp
  have CP := Lib.hid cp
  clear cp
  go_enter Tryd.func15, Tryd.ntmps15
  go_wp2_with fail
  refine (CP.out _).mono ?_
  rintro x w1 ⟨rfl, hb1⟩
  have HB1 := Lib.hid hb1
  clear hb1
  go_wp2_with fail
  refine (crt_2446_any w1 _).mono ?_
  rintro x w2 ⟨rfl, hb2⟩
  have hb12 : Below w.heap.size w w2 := (HB1.out.alloc (by have := HB1.out.size; omega) _).trans (hb2.mono (by have := HB1.out.size; omega))
  have hT2 := hT.below hb12 hB
  have hsz := hb12.size
  have HB := Lib.hid hb12
  have HT := Lib.hid hT2
  have ck := fun o => kronecker_any (-4) 7 (w2.alloc o) (by omega) (by omega) (by omega) (by omega) (hT2.alloc (by omega) o)
  rw [kro_47] at ck
  have CK := Lib.hid ck
  clear hb12 hb2 hT2 hT ck HB1
  go_wp2_with (go_at_call 16; refine (CK.out _).mono ?_; rintro x w' ⟨rfl, rfl⟩)
  go_ret
  refine ⟨rfl, ?_⟩
  exact HB.out.alloc hsz _
end Go.Proofs.YtjmldlbiihaefaaDoor
