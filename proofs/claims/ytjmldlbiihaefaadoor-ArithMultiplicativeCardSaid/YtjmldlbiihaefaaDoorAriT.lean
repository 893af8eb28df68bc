/- The walks of arith.Psi and arith.Mobius. -/
import Derived.Test.YtjmldlbiihaefaaDoorAriD
namespace Go.Proofs.YtjmldlbiihaefaaDoor
open Go.RowKit HP

set_option maxHeartbeats 400000 in
theorem psi1_any (p e : Nat) (w : World) (hp : 1 ≤ p) (hp2 : p ≤ 2147483648) (he : 1 ≤ e) (he2 : e ≤ 2147483648) (h : p ^ (e - 1) ≤ 2147483648) :
    Calls Tryd.prog 75 #[.int .i64 p, .int .i64 e] w fun x w' => x = .returned (.int .i64 ((p ^ (e - 1) * (p + 1) : Nat) : Int)) ∧ w = w' := by
  have c := power_any p (e - 1) w hp hp2 h (by omega)
  have ec : ((e - 1 : Nat) : Int) = (e : Int) - 1 := by omega
  rw [ec] at c
  generalize p ^ (e - 1) = q at *
  have hb : q * (p + 1) ≤ 2147483648 * 2147483649 := Nat.mul_le_mul h (by omega)
  have hpc : (q : Int) * ((p : Int) + 1) = ((q * (p + 1) : Nat) : Int) := by
    rw [Int.natCast_mul]; rfl
  have C := Lib.hid c
  clear c ec
  generalize q * (p + 1) = r at *
  go_enter Tryd.func75, Tryd.ntmps75
  go_wp2_with (go_at_call 64; refine C.out.mono ?_; rintro x w' ⟨rfl, rfl⟩)
  go_ret
  exact ⟨rfl, rfl⟩
theorem mob1_any (p e : Nat) (w : World) : Calls Tryd.prog 76 #[.int .i64 p, .int .i64 e] w fun x w' => x = .returned (.int .i64 (mobF p e)) ∧ w = w' := by
  by_cases h : 1 < e
  · have t : decide ((1 : Int) < (e : Int)) = true := by rw [decide_eq_true_iff]; omega
    have t' : decide (1 < e) = true := by rw [decide_eq_true_iff]; exact h
    go_enter Tryd.func76, Tryd.ntmps76
    go_wp2
    go_ret
    exact ⟨by unfold mobF; rw [if_pos h]; rfl, rfl⟩
  · have t : decide ((1 : Int) < (e : Int)) = false := by rw [decide_eq_false_iff_not]; omega
    have t' : decide (1 < e) = false := by rw [decide_eq_false_iff_not]; exact h
    go_enter Tryd.func76, Tryd.ntmps76
    go_wp2
    go_ret
    exact ⟨by unfold mobF; rw [if_neg h]; rfl, rfl⟩

theorem enters75 (args : Array Value) (w : World) : (callFunc 75 args).run Tryd.prog w = .ok (.enter 75 args) w := enters_of Tryd.func75 (by kernel_rfl) rfl args w
theorem enters76 (args : Array Value) (w : World) : (callFunc 76 args).run Tryd.prog w = .ok (.enter 76 args) w := enters_of Tryd.func76 (by kernel_rfl) rfl args w

theorem psi_any (N : Nat) (w : World) (hN0 : 1 ≤ N) (hN : N ≤ 2147483647) :
    Calls Tryd.prog 47 #[.int .i64 N] w fun x w' => x = .returned (.tuple #[.int .i64 (psi N), .int .i64 0]) ∧ Below w.heap.size w w' := by
  have c := product_any psiF 75 enters75 N w hN0 hN
    (fun p e hm w => by
      obtain ⟨x1, x2, x3, x4, x5, x6, x7⟩ := facs_bounds (by omega) hm
      exact psi1_any p e w (by omega) (by omega) x3 (by omega) (by omega))
    (fun l r h => by
      have := psi_prefix (by omega) h
      have h2 : (N : Int) * N ≤ 2147483647 * 2147483647 := Int.mul_le_mul (by omega) (by omega) (by omega) (by omega)
      omega)
  have C := Lib.hid c
  clear c
  go_enter Tryd.func47, Tryd.ntmps47
  go_wp2_with (go_at_call 73; refine C.out.mono ?_; rintro x w' ⟨rfl, hb⟩)
  go_ret2
  exact ⟨rfl, by assumption⟩
theorem mob_any (N : Nat) (w : World) (hN0 : 1 ≤ N) (hN : N ≤ 2147483647) :
    Calls Tryd.prog 48 #[.int .i64 N] w fun x w' => x = .returned (.tuple #[.int .i64 (mob N), .int .i64 0]) ∧ Below w.heap.size w w' := by
  have c := product_any mobF 76 enters76 N w hN0 hN (fun p e _ w => mob1_any p e w)
    (fun l r _ => by
      have := mob_tri l
      rcases this with h | h | h <;> omega)
  have C := Lib.hid c
  clear c
  go_enter Tryd.func48, Tryd.ntmps48
  go_wp2_with (go_at_call 73; refine C.out.mono ?_; rintro x w' ⟨rfl, hb⟩)
  go_ret2
  exact ⟨rfl, by assumption⟩
/-- out of range -/
theorem product_no (N : Int) (g : Nat) (w : World) (h : N < 1 ∨ 2147483647 < N) :
    Calls Tryd.prog 73 #[.int .i64 N, .func (.func g) #[] #[]] w fun x w' => x = .returned (.tuple #[.int .i64 0, .int .i64 2]) ∧ Below w.heap.size w w' := by
  have hmf : ∀ (fn : Fn) (first cap : Array Value) (w : World), (Instr.makeFunc fn first cap).run Tryd.prog w = .ok (.func fn first cap) w := fun _ _ _ _ => rfl
  go_enter Tryd.func73, Tryd.ntmps73
  go_wp2_with (go_at_call 61; refine (inRange_no N _ h).mono ?_; rintro x w' ⟨rfl, rfl⟩)
  go_ret2
  exact ⟨rfl, (Below.refl _ _).alloc (Nat.le_refl _) _⟩
theorem phi_no (N : Int) (w : World) (h : N < 1 ∨ 2147483647 < N) :
    Calls Tryd.prog 46 #[.int .i64 N] w fun x w' => x = .returned (.tuple #[.int .i64 0, .int .i64 2]) ∧ Below w.heap.size w w' := by
  go_enter Tryd.func46, Tryd.ntmps46
  go_wp2_with (go_at_call 73; refine (product_no N _ _ h).mono ?_; rintro x w' ⟨rfl, hb⟩)
  go_ret2
  exact ⟨rfl, by assumption⟩
theorem psi_no (N : Int) (w : World) (h : N < 1 ∨ 2147483647 < N) :
    Calls Tryd.prog 47 #[.int .i64 N] w fun x w' => x = .returned (.tuple #[.int .i64 0, .int .i64 2]) ∧ Below w.heap.size w w' := by
  go_enter Tryd.func47, Tryd.ntmps47
  go_wp2_with (go_at_call 73; refine (product_no N _ _ h).mono ?_; rintro x w' ⟨rfl, hb⟩)
  go_ret2
  exact ⟨rfl, by assumption⟩
theorem mob_no (N : Int) (w : World) (h : N < 1 ∨ 2147483647 < N) :
    Calls Tryd.prog 48 #[.int .i64 N] w fun x w' => x = .returned (.tuple #[.int .i64 0, .int .i64 2]) ∧ Below w.heap.size w w' := by
  go_enter Tryd.func48, Tryd.ntmps48
  go_wp2_with (go_at_call 73; refine (product_no N _ _ h).mono ?_; rintro x w' ⟨rfl, hb⟩)
  go_ret2
  exact ⟨rfl, by assumption⟩
end Go.Proofs.YtjmldlbiihaefaaDoor
