/- The comparison of two lists of integers. -/
import Derived.Test.YtjmldlbiihaefaaDoorAriK
namespace Go.Proofs.YtjmldlbiihaefaaDoor
open Go.RowKit HP

theorem ints_nil (a b : Option Addr) (c d : Nat) (w : World) : Calls Tryd.prog 30 #[.slice a 0 c, .slice b 0 d] w fun x w' => x = .returned (.bool true) ∧ ∃ m, w' = w.drewN m := by
  go_enter Tryd.func30, Tryd.ntmps30
  go_wp2
  refine wp_loop_rounds 1 ?_
  rw [rounds_succ]
  go_wp2
  go_ret
  exact ⟨rfl, 0, rfl⟩
set_option maxHeartbeats 400000 in
set_option maxRecDepth 100000 in
theorem ints_same {B C : Nat} {w : World} {v v' : Value} {l : List Int} (h : IntsAt B w v l) (h' : IntsAt C w v' l) :
    Calls Tryd.prog 30 #[v, v'] w fun x w' => x = .returned (.bool true) ∧ ∃ m, w' = w.drewN m := by
  rcases h with ⟨rfl, rfl⟩ | ⟨g, cap, rfl, h1, h2, h3, h4, h5⟩
  · rcases h' with ⟨rfl, _⟩ | ⟨g', cap', rfl, k1, k2, k3, k4, k5⟩
    · exact ints_nil _ _ _ _ _
    · exact ints_nil _ _ _ _ _
  · rcases h' with ⟨rfl, rfl⟩ | ⟨g', cap', rfl, k1, k2, k3, k4, k5⟩
    · exact ints_nil _ _ _ _ _
    · unfold maxLen at h2 k2
      have H5 := Lib.hid h5
      have K5 := Lib.hid k5
      clear h5 k5
      go_enter Tryd.func30, Tryd.ntmps30
      go_wp2
      go_loopw [5] (fun y wr => ∃ (i m : Nat), y = .int .i64 i ∧ i ≤ l.length ∧ wr = w.drewN m) (fun y _ => l.length - (intOf y).toNat)
      case atStart => exact ⟨0, 0, rfl, Nat.zero_le _, rfl⟩
      case round =>
        obtain ⟨i, m, rfl, h6, rfl⟩ := hrel
        by_cases hi : i < l.length
        · have c1 := H5.out i _ (List.getElem?_eq_getElem hi)
          have c2 := K5.out i _ (List.getElem?_eq_getElem hi)
          generalize l[i] = x at *
          have d1 : (w.drewN m).cell? ⟨g, i, none⟩ = some (.int .i64 x) := c1
          have d2 : (w.drewN m).cell? ⟨g', i, none⟩ = some (.int .i64 x) := c2
          have e1 : (x != x) = false := by simp
          go_wp2
          go_quiet (fail)
          go_wp2
          go_roundw
          case rel => exact ⟨i + 1, m + nq, by go_num, by omega, rfl⟩
          case measure => simp [intOf]; omega
        · obtain rfl : i = l.length := by omega
          go_wp2
          go_ret
          exact ⟨rfl, m, rfl⟩
end Go.Proofs.YtjmldlbiihaefaaDoor
