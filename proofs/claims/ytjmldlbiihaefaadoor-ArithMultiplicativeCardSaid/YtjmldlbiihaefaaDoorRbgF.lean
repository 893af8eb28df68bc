/- The reference's integers: Same. -/
import Derived.Test.YtjmldlbiihaefaaDoorBigF
import Derived.BigQuiet
namespace Go.Proofs.YtjmldlbiihaefaaDoor
open Go.RowKit HP

theorem box_start2 (w : World) (p q r s : Value) (t t' : TypeId) :
    ((w.alloc (.cells #[p, q] t)).alloc (.cells #[r, s] t')).cell? ⟨w.heap.size, 0, none⟩ = some p ∧ ((w.alloc (.cells #[p, q] t)).alloc (.cells #[r, s] t')).cell? ⟨w.heap.size, 1, none⟩ = some q ∧
    ((w.alloc (.cells #[p, q] t)).alloc (.cells #[r, s] t')).cell? ⟨w.heap.size + 1, 0, none⟩ = some r ∧ ((w.alloc (.cells #[p, q] t)).alloc (.cells #[r, s] t')).cell? ⟨w.heap.size + 1, 1, none⟩ = some s := by
  refine ⟨?_, ?_, ?_, ?_⟩
  · rw [World.cell?_alloc_past _ _ _ (by simp), World.cell?_alloc_at _ _ _ _ rfl]; rfl
  · rw [World.cell?_alloc_past _ _ _ (by simp), World.cell?_alloc_at _ _ _ _ rfl]; rfl
  · rw [World.cell?_alloc_at _ _ _ _ (by simp)]; rfl
  · rw [World.cell?_alloc_at _ _ _ _ (by simp)]; rfl

set_option maxHeartbeats 1000000 in
set_option maxRecDepth 100000 in
theorem same_zero (s : Bool) (v u : Value) (w : World) (hv : v = .slice none 0 0 ∨ ∃ g cap, v = .slice (some ⟨g, 0, none⟩) 0 cap) (hu : u = .slice none 0 0 ∨ ∃ g cap, u = .slice (some ⟨g, 0, none⟩) 0 cap) :
    Calls Tryd.prog 50 #[.agg #[.bool s, v], .agg #[.bool s, u]] w fun e w' => e = .returned (.bool true) ∧ Below w.heap.size w w' := by
  have t0 : (s != s) = false := by simp
  have hbel : Below w.heap.size w ((w.alloc (.cells #[.bool s, v] 69)).alloc (.cells #[.bool s, u] 69)) := ((Below.refl _ _).alloc (Nat.le_refl _) _).alloc (by simp) _
  have HBEL := Lib.hid hbel
  clear hbel
  rcases hv with rfl | ⟨g, cap, rfl⟩ <;> rcases hu with rfl | ⟨g', cap', rfl⟩
  all_goals
    go_enter Tryd.func50, Tryd.ntmps50
    go_wp2
    refine wp_loop_rounds 1 ?_
    rw [rounds_succ]
    go_wp2
    go_ret
    exact ⟨rfl, HBEL.out⟩

set_option maxHeartbeats 1000000 in
set_option maxRecDepth 100000 in
theorem same_pos (s : Bool) (g n cap g' cap' : Nat) (F : Nat → Nat) (w : World) (hg : g < w.heap.size) (hg' : g' < w.heap.size) (hn : n ≤ 1000000000)
    (hc : ∀ i, i < n → w.cell? ⟨g, i, none⟩ = some (.int .u32 (F i))) (hd : ∀ i, i < n → w.cell? ⟨g', i, none⟩ = some (.int .u32 (F i))) :
    Calls Tryd.prog 50 #[.agg #[.bool s, .slice (some ⟨g, 0, none⟩) n cap], .agg #[.bool s, .slice (some ⟨g', 0, none⟩) n cap']] w fun e w' => e = .returned (.bool true) ∧ Below w.heap.size w w' := by
  have t0 : (s != s) = false := by simp
  have hbel : Below w.heap.size w ((w.alloc (.cells #[.bool s, .slice (some ⟨g, 0, none⟩) n cap] 69)).alloc (.cells #[.bool s, .slice (some ⟨g', 0, none⟩) n cap'] 69)) := ((Below.refl _ _).alloc (Nat.le_refl _) _).alloc (by simp) _
  have hbox := box_start2 w (.bool s) (.slice (some ⟨g, 0, none⟩) n cap) (.bool s) (.slice (some ⟨g', 0, none⟩) n cap') 69 69
  have HBEL := Lib.hid hbel
  have HBOX := Lib.hid hbox
  have HC := Lib.hid hc
  have HD := Lib.hid hd
  clear hbel hbox hc hd
  go_enter Tryd.func50, Tryd.ntmps50
  go_wp2
  generalize ((w.alloc (.cells #[.bool s, .slice (some ⟨g, 0, none⟩) n cap] 69)).alloc (.cells #[.bool s, .slice (some ⟨g', 0, none⟩) n cap'] 69)) = W0 at *
  go_loopw [5] (fun y wr => ∃ (i k : Nat), y = .int .i64 i ∧ i ≤ n ∧ wr = W0.drewN k) (fun y _ => n - (intOf y).toNat)
  case atStart => exact ⟨0, 0, rfl, Nat.zero_le _, rfl⟩
  case round =>
    obtain ⟨i, k, rfl, hi, rfl⟩ := hrel
    obtain ⟨b0, b1, b2, b3⟩ := HBOX.out
    by_cases hin : i < n
    · have c1 := (HBEL.out.cell (p := ⟨g, i, none⟩) hg).trans (HC.out i hin)
      have c2 := (HBEL.out.cell (p := ⟨g', i, none⟩) hg').trans (HD.out i hin)
      have t1 : ((F i : Int) != (F i : Int)) = false := by simp
      go_wp2
      go_quiet (fail)
      go_wp2
      go_roundw
      case rel => exact ⟨i + 1, _, by go_num, by omega, rfl⟩
      case measure => simp [intOf]; omega
    · obtain rfl : i = n := by omega
      go_wp2
      go_ret
      exact ⟨rfl, below_drewN HBEL.out k⟩
/-- two values of the same integer have the same fields -/
theorem same_any (a b : Value) (x : Int) (w : World) (ha : IntV w a x) (hb : IntV w b x) (hx : x.natAbs < W32 ^ 1000000) :
    Calls Tryd.prog 50 #[a, b] w fun e w' => e = .returned (.bool true) ∧ Below w.heap.size w w' := by
  obtain ⟨v, rfl, n, h1, h2⟩ := ha
  obtain ⟨u, rfl, m, k1, k2⟩ := hb
  obtain rfl := h2.unique k2
  have hn := h2.le hx
  by_cases h0 : n = 0
  · subst h0
    refine same_zero _ v u w ?_ ?_
    · rcases h1 with ⟨rfl, _⟩ | ⟨g, cap, rfl, _⟩
      · exact .inl rfl
      · exact .inr ⟨g, cap, rfl⟩
    · rcases k1 with ⟨rfl, _⟩ | ⟨g, cap, rfl, _⟩
      · exact .inl rfl
      · exact .inr ⟨g, cap, rfl⟩
  · rcases h1 with ⟨_, h⟩ | ⟨g, cap, rfl, _, hg, hc⟩
    · exact absurd h h0
    rcases k1 with ⟨_, h⟩ | ⟨g', cap', rfl, _, hg', hd⟩
    · exact absurd h h0
    exact same_pos _ g n cap g' cap' _ w hg hg' (by omega) hc hd
end Go.Proofs.YtjmldlbiihaefaaDoor
