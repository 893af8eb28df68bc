/- The walks of arith.Psi and arith.Mobius. -/
import Derived.Test.YtdjfndfkjbjcpaaGreatDoorAriD
namespace Go.Proofs.YtdjfndfkjbjcpaaGreatDoor
open Go.RowKit HP

set_option maxHeartbeats 400000 in
theorem psi1_any (p e : Nat) (w : World) (hp : 1 ≤ p) (hp2 : p ≤ 2147483648) (he : 1 ≤ e) (he2 : e ≤ 2147483648) (h : p ^ (e - 1) ≤ 2147483648) :
    Calls Tryz.prog 80 #[.int .i64 p, .int .i64 e] w fun x w' => x = .returned (.int .i64 ((p ^ (e - 1) * (p + 1) : Nat) : Int)) ∧ w = w' := by
  have c := power_any p (e - 1) w hp hp2 h (by omega)
  have ec : ((e - 1 : Nat) : Int) = (e : Int) - 1 := by omega
  rw [ec] at c
  generalize p ^ (e - 1) = q at *
  have hb : q * (p + 1) ≤ 2147483648 * 2147483649 := Nat.mul_le_mul h (by omega)
  have hpc : (q : Int) * ((p : Int) + 1) = ((q * (p + 1) : Nat) : Int) := by
    rw [Int.natCast_mul]; rfl
  have C := Lib.hid c
  clear c ec
  generalize q * (p + 1) = r at *
  go_enter Tryz.func80, Tryz.ntmps80
  go_wp2_with (go_at_call 78; refine C.out.mono ?_; rintro x w' ⟨rfl, rfl⟩)
  go_ret
  exact ⟨rfl, rfl⟩
theorem enters80 (args : Array Value) (w : World) : (callFunc 80 args).run Tryz.prog w = .ok (.enter 80 args) w := enters_of Tryz.func80 (by kernel_rfl) rfl args w
theorem psi_any (N : Nat) (w : World) (hN0 : 1 ≤ N) (hN : N ≤ 2147483647) :
    Calls Tryz.prog 33 #[.int .i64 N] w fun x w' => x = .returned (.tuple #[.int .i64 (psi N), .int .i64 0]) ∧ Below w.heap.size w w' := by
  have c := product_any psiF 80 enters80 N w hN0 hN
    (fun p e hm w => by
      obtain ⟨x1, x2, x3, x4, x5, x6, x7⟩ := facs_bounds (by omega) hm
      exact psi1_any p e w (by omega) (by omega) x3 (by omega) (by omega))
    (fun l r h => by
      have := psi_prefix (by omega) h
      have h2 : (N : Int) * N ≤ 2147483647 * 2147483647 := Int.mul_le_mul (by omega) (by omega) (by omega) (by omega)
      omega)
  have C := Lib.hid c
  clear c
  go_enter Tryz.func33, Tryz.ntmps33
  go_wp2_with (go_at_call 79; refine C.out.mono ?_; rintro x w' ⟨rfl, hb⟩)
  go_ret2
  exact ⟨rfl, by assumption⟩
end Go.Proofs.YtdjfndfkjbjcpaaGreatDoor
