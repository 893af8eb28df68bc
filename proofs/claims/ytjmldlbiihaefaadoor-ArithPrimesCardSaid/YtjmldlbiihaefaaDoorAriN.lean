/- arith.Primes below 2. -/
import Derived.Test.YtjmldlbiihaefaaDoorAriM
namespace Go.Proofs.YtjmldlbiihaefaaDoor
open Go.RowKit HP

set_option maxRecDepth 100000 in
theorem primes_small (k : Int) (w : World) (h : k < 2) (hm : -9223372036854775808 ≤ k) : Calls Tryd.prog 29 #[.int .i64 k] w fun x w' => x = .returned (.tuple #[.slice none 0 0, .int .i64 0]) ∧ Below w.heap.size w w' := by
  have d1 : decide (1048576 < k) = false := by simp; omega
  have d2 : decide (2 ≤ k) = false := by simp; omega
  have mk0 : ∀ W : World, (Instr.makeSlice 81 (.int .i64 0) (.int .i64 0)).run Tryd.prog W = .ok (.slice (some ⟨W.heap.size, 0, none⟩) 0 0) (W.alloc (.cells #[] 4)) := fun _ => by kernel_rfl
  have mk1 : ∀ W : World, (Instr.makeSlice 81 (.int .i64 1) (.int .i64 1)).run Tryd.prog W = .ok (.slice (some ⟨W.heap.size, 0, none⟩) 1 1) (W.alloc (.cells #[.bool false] 4)) := fun _ => by kernel_rfl
  have mk2 : ∀ W : World, (Instr.makeSlice 81 (.int .i64 2) (.int .i64 2)).run Tryd.prog W = .ok (.slice (some ⟨W.heap.size, 0, none⟩) 2 2) (W.alloc (.cells #[.bool false, .bool false] 4)) := fun _ => by kernel_rfl
  have hc : k < -1 ∨ k = -1 ∨ k = 0 ∨ k = 1 := by omega
  rcases hc with hk | rfl | rfl | rfl
  · go_enter Tryd.func29, Tryd.ntmps29
    go_wp2
    all_goals refine wp_loop_rounds 1 ?_
    all_goals rw [rounds_succ]
    all_goals go_wp2
    all_goals go_ret2
    all_goals exact ⟨rfl, (Below.refl _ _).alloc (Nat.le_refl _) _⟩
  · go_enter Tryd.func29, Tryd.ntmps29
    go_wp2
    all_goals refine wp_loop_rounds 1 ?_
    all_goals rw [rounds_succ]
    all_goals go_wp2
    all_goals go_ret2
    all_goals exact ⟨rfl, (Below.refl _ _).alloc (Nat.le_refl _) _⟩
  · go_enter Tryd.func29, Tryd.ntmps29
    go_wp2
    all_goals refine wp_loop_rounds 1 ?_
    all_goals rw [rounds_succ]
    all_goals go_wp2
    all_goals go_ret2
    all_goals exact ⟨rfl, (Below.refl _ _).alloc (Nat.le_refl _) _⟩
  · go_enter Tryd.func29, Tryd.ntmps29
    go_wp2
    all_goals refine wp_loop_rounds 1 ?_
    all_goals rw [rounds_succ]
    all_goals go_wp2
    all_goals go_ret2
    all_goals exact ⟨rfl, (Below.refl _ _).alloc (Nat.le_refl _) _⟩
end Go.Proofs.YtjmldlbiihaefaaDoor
