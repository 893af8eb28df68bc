/- The walk of arith.Fundamental. -/
import Derived.Test.YtdjfndfkjbjcpaaGreatDoorAriG
import Derived.Test.YtdjfndfkjbjcpaaGreatDoorNumA
namespace Go.Proofs.YtdjfndfkjbjcpaaGreatDoor
open Go.RowKit HP

set_option maxHeartbeats 1000000 in
set_option maxRecDepth 100000 in
theorem fund1_any (p e : Nat) (x y : Int) (b6 b3 : Nat) (w : World) (hne : b6 ≠ b3) (hp : 1 ≤ p) (hp2 : p ≤ 2147483648) (he : e ≤ 2147483648) (hx1 : p ^ (e % 2) ≤ 2147483648) (hy1 : p ^ (e / 2) ≤ 2147483648)
    (h1 : w.cell? ⟨b6, 0, none⟩ = some (.int .i64 x)) (h2 : w.frozen? ⟨b6, 0, none⟩ = false) (h3 : w.cell? ⟨b3, 0, none⟩ = some (.int .i64 y)) (h4 : w.frozen? ⟨b3, 0, none⟩ = false) :
    Calls Tryz.prog 77 #[.int .i64 p, .int .i64 e, .pointer (some ⟨b6, 0, none⟩), .pointer (some ⟨b3, 0, none⟩)] w fun x' w' => x' = .returned (.tuple #[]) ∧ ∃ m k, w' = (((w.setCell ⟨b6, 0, none⟩ (.int .i64 (wrap64 (x * ((p ^ (e % 2) : Nat) : Int))))).drewN m).setCell ⟨b3, 0, none⟩ (.int .i64 (wrap64 (y * ((p ^ (e / 2) : Nat) : Int))))).drewN k := by
  have c1 := fun w => power_any p (e % 2) w hp hp2 hx1 (by omega)
  have c2 := fun w => power_any p (e / 2) w hp hp2 hy1 (by omega)
  have e1 : ((e % 2 : Nat) : Int) = (e : Int) % 2 := by omega
  have e2 : ((e / 2 : Nat) : Int) = (e : Int) / 2 := by omega
  rw [e1] at c1
  rw [e2] at c2
  have e3 : (e : Int) % 2 = (e : Int).tmod 2 := rfl
  have e4 : (e : Int) / 2 = IntKind.i64.wrap ((e : Int).tdiv 2) := by rw [IntWalk.i64_left, IntWalk.wrap64_in _ (by rw [Int.tdiv_eq_ediv_of_nonneg (by omega)]; omega), Int.tdiv_eq_ediv_of_nonneg (by omega)]
  rw [e3] at c1
  rw [e4] at c2
  generalize p ^ (e % 2) = q at *
  generalize p ^ (e / 2) = r at *
  have C1 := Lib.hid c1
  have C2 := Lib.hid c2
  clear c1 c2 e1 e2 e3 e4
  have h5 : ∀ v, (w.setCell ⟨b6, 0, none⟩ v).cell? ⟨b3, 0, none⟩ = some (.int .i64 y) := fun v => (World.cell?_setCell_other _ _ _ _ (by simp)).trans h3
  have h6 : ∀ v, (w.setCell ⟨b6, 0, none⟩ v).frozen? ⟨b3, 0, none⟩ = false := fun v => (World.frozen?_setCell _ _ _ _).trans h4
  have h7 : ∀ v, (w.setCell ⟨b6, 0, none⟩ v).drew.cell? ⟨b3, 0, none⟩ = some (.int .i64 y) := fun v => by rw [show (w.setCell ⟨b6, 0, none⟩ v).drew = (w.setCell ⟨b6, 0, none⟩ v).drewN 1 from rfl, World.cell?_drewN]; exact h5 v
  have h8 : ∀ v, (w.setCell ⟨b6, 0, none⟩ v).drew.frozen? ⟨b3, 0, none⟩ = false := fun v => by rw [show (w.setCell ⟨b6, 0, none⟩ v).drew = (w.setCell ⟨b6, 0, none⟩ v).drewN 1 from rfl, World.frozen?_drewN]; exact h6 v
  go_enter Tryz.func77, Tryz.ntmps77
  go_wp2
  go_region_with (go_at_call 78; refine (C1.out _).mono ?_; rintro x w' ⟨rfl, rfl⟩)
  all_goals go_wp2
  all_goals go_region_with (go_at_call 78; refine (C2.out _).mono ?_; rintro x w' ⟨rfl, rfl⟩)
  all_goals go_end0
  all_goals exact ⟨rfl, 1, 1, by simp only [IntWalk.i64_left]; rfl⟩
end Go.Proofs.YtdjfndfkjbjcpaaGreatDoor
