/- The sums over roots: walked by hand, since a function is handed on that writes. -/
import Derived.Test.YtjijdabbhfefjaaGreatDoorSpA
import Derived.Test.YtjijdabbhfefjaaGreatDoorPkNumW
import Derived.StillTailTactics
import Derived.Deep.DeepCutAuto
namespace Go.Proofs.YtjijdabbhfefjaaGreatDoor
open Go Go.RowKit Go.VG HP
set_option maxHeartbeats 1000000 in
theorem roots_any (g : Nat) (caps : Array Value) (he : ∀ args w, (callFunc g args).run Tryz.prog w = .ok (.enter g args) w) (n c : Nat) (w : World) (hn0 : 0 < n) (hn : n ≤ 1000) (hc : c ≤ 1000)
    (I : Nat → World → Prop) (h0 : I 0 w)
    (hs : ∀ a wr, a < n → (a * a + c * a + 1) % n = 0 → I a wr → Calls Tryz.prog g (#[.int .i64 a] ++ caps) wr fun x w' => x = .returned (.tuple #[]) ∧ I (a + 1) w')
    (hk : ∀ a wr, (a * a + c * a + 1) % n ≠ 0 → I a wr → I (a + 1) wr) :
    Calls Tryz.prog 111 #[.int .i64 n, .int .i64 c, .func (.func g) #[] caps] w fun e w' => e = .returned (.tuple #[]) ∧ I n w' := by
  have HS := Lib.hid hs
  have HK := Lib.hid hk
  clear hs hk
  go_enter Tryz.func111, Tryz.ntmps111
  go_wp2
  go_loopw [8] (fun x wr => ∃ a : Nat, x = .int .i64 a ∧ a ≤ n ∧ I a wr) (fun x _ => n - (intOf x).toNat)
  case atStart => exact ⟨0, rfl, Nat.zero_le _, h0⟩
  case round =>
    obtain ⟨a, rfl, ha, hI⟩ := hrel
    by_cases hlt : a < n
    · have p1 : (a : Int) * a ≤ 1000 * 1000 := Int.mul_le_mul (by omega) (by omega) (by omega) (by omega)
      have p2 : (c : Int) * a ≤ 1000 * 1000 := Int.mul_le_mul (by omega) (by omega) (by omega) (by omega)
      have p3 : 0 ≤ (a : Int) * a := Int.mul_nonneg (by omega) (by omega)
      have p4 : 0 ≤ (c : Int) * a := Int.mul_nonneg (by omega) (by omega)
      have em : ((a * a + c * a + 1 : Nat) : Int) = (a : Int) * a + (c : Int) * a + 1 := by push_cast; rfl
      have em2 : (((a * a + c * a + 1) % n : Nat) : Int) = ((a : Int) * a + (c : Int) * a + 1) % n := by rw [← em]; rfl
      by_cases hz : (a * a + c * a + 1) % n = 0
      · have hd : (((a : Int) * a + (c : Int) * a + 1) % n == 0) = true := by rw [beq_iff_eq, ← em2]; omega
        have c := HS.out a wr hlt hz hI
        have C := Lib.hid c
        clear c em em2 hI
        go_wp2_with (go_at_fn g; refine C.out.mono ?_; rintro x w' ⟨rfl, hI⟩)
        go_roundw
        case rel => exact ⟨a + 1, by go_num, hlt, hI⟩
        case measure => simp [intOf]; omega
      · have hd : (((a : Int) * a + (c : Int) * a + 1) % n == 0) = false := by rw [beq_eq_false_iff_ne, ← em2]; omega
        have hI' := HK.out a wr hz hI
        clear em em2 hI
        go_wp2
        go_roundw
        case rel => exact ⟨a + 1, by go_num, hlt, hI'⟩
        case measure => simp [intOf]; omega
    · obtain rfl : a = n := by omega
      go_wp2
      go_end0
      exact ⟨rfl, hI⟩
set_option maxHeartbeats 2000000 in
set_option maxRecDepth 100000 in
theorem quad1_any (g s l : Nat) (a n : Nat) (x D : Int) (w : World) (hT : TabW w) (hg : w.cell? ⟨g, 3, none⟩ = some (.int .i64 x)) (hf : w.frozen? ⟨g, 3, none⟩ = false) (hs : w.cell? ⟨s, 2, none⟩ = some (.int .i64 D)) (hl : w.cell? ⟨l, 0, none⟩ = some (.int .i64 n))
    (ha : a ≤ 1000) (hn : n ≤ 1000) (hD : -1000000 ≤ D) (hD2 : D ≤ 1000000) (hx : -1000000 ≤ x) (hx2 : x ≤ 1000000) :
    Calls Tryz.prog 112 #[.int .i64 a, .pointer (some ⟨g, 0, none⟩), .pointer (some ⟨s, 0, none⟩), .pointer (some ⟨l, 0, none⟩)] w fun e w' => e = .returned (.tuple #[]) ∧ ∃ m, w' = (w.setCell ⟨g, 3, none⟩ (.int .i64 (x + kro D ((a : Int) + n)))).drewN m := by
  have ht := kro_tri D ((a : Int) + n)
  have ht2 : -1 ≤ kro D ((a : Int) + n) ∧ kro D ((a : Int) + n) ≤ 1 := by rcases ht with h | h | h <;> omega
  clear ht
  obtain ⟨q, hq⟩ : ∃ q : Int, q = (a : Int) + n := ⟨_, rfl⟩
  rw [← hq] at ht2
  have hw : IntKind.i64.wrap ((a : Int) + n) = q := (IntWalk.i64_left _).trans ((IntWalk.wrap64_in ((a : Int) + n) (by omega)).trans hq.symm)
  have c : Calls Tryz.prog 109 #[.int .i64 D, .int .i64 q] w.drew fun e w' => e = .returned (.int .i64 (kro D q)) ∧ w' = w.drew :=
    (kronecker_any D q w.drew (by omega) (by omega) (by omega) (by omega) hT).mono fun _ _ h => ⟨h.1, h.2.symm⟩
  rw [← hq]
  generalize kro D q = k at *
  have hw2 : IntKind.i64.wrap (x + k) = x + k := (IntWalk.i64_left _).trans (IntWalk.wrap64_in (x + k) (by omega))
  have C := Lib.hid c
  clear c hT hq ht2 hD hD2 hx hx2 ha hn
  go_enter Tryz.func112, Tryz.ntmps112
  go_wp2
  refine wp_region_still_tail 10 (by decide +kernel) (by decide +kernel) ?_
  simp only [List.take_succ_cons, List.take_zero, List.drop_succ_cons, List.drop_zero]
  still_step
  still_step
  still_step
  still_step
  still_step
  still_step
  still_step
  still_call (C.out)
  still_step
  still_step
  refine wpStill_nil ?_
  change wpList _ _ _ _ _ w.drew
  have hf2 : w.drew.frozen? ⟨g, 3, none⟩ = false := hf
  clear hf hs hl
  go_wp2
  go_end0
  exact ⟨rfl, 1, rfl⟩
set_option maxHeartbeats 2000000 in
set_option maxRecDepth 100000 in
theorem quad2_any (g s l : Nat) (a n : Nat) (x D : Int) (w : World) (hT : TabW w) (hg : w.cell? ⟨g, 4, none⟩ = some (.int .i64 x)) (hf : w.frozen? ⟨g, 4, none⟩ = false) (hs : w.cell? ⟨s, 2, none⟩ = some (.int .i64 D)) (hl : w.cell? ⟨l, 0, none⟩ = some (.int .i64 n))
    (ha : a ≤ 1000) (hn : n ≤ 1000) (hD : -1000000 ≤ D) (hD2 : D ≤ 1000000) (hx : -1000000 ≤ x) (hx2 : x ≤ 1000000) :
    Calls Tryz.prog 113 #[.int .i64 a, .pointer (some ⟨g, 0, none⟩), .pointer (some ⟨s, 0, none⟩), .pointer (some ⟨l, 0, none⟩)] w fun e w' => e = .returned (.tuple #[]) ∧ ∃ m, w' = (w.setCell ⟨g, 4, none⟩ (.int .i64 (x + 2 * kro D ((a : Int) + n)))).drewN m := by
  have ht := kro_tri D ((a : Int) + n)
  have ht2 : -1 ≤ kro D ((a : Int) + n) ∧ kro D ((a : Int) + n) ≤ 1 := by rcases ht with h | h | h <;> omega
  clear ht
  obtain ⟨q, hq⟩ : ∃ q : Int, q = (a : Int) + n := ⟨_, rfl⟩
  rw [← hq] at ht2
  have hw : IntKind.i64.wrap ((a : Int) + n) = q := (IntWalk.i64_left _).trans ((IntWalk.wrap64_in ((a : Int) + n) (by omega)).trans hq.symm)
  have c : Calls Tryz.prog 109 #[.int .i64 D, .int .i64 q] w.drew fun e w' => e = .returned (.int .i64 (kro D q)) ∧ w' = w.drew :=
    (kronecker_any D q w.drew (by omega) (by omega) (by omega) (by omega) hT).mono fun _ _ h => ⟨h.1, h.2.symm⟩
  rw [← hq]
  generalize kro D q = k at *
  have hw2 : IntKind.i64.wrap (x + 2 * k) = x + 2 * k := (IntWalk.i64_left _).trans (IntWalk.wrap64_in (x + 2 * k) (by omega))
  have hw3 : IntKind.i64.wrap (2 * k) = 2 * k := (IntWalk.i64_left _).trans (IntWalk.wrap64_in (2 * k) (by omega))
  have C := Lib.hid c
  clear c hT hq ht2 hD hD2 hx hx2 ha hn
  go_enter Tryz.func113, Tryz.ntmps113
  go_wp2
  refine wp_region_still_tail 11 (by decide +kernel) (by decide +kernel) ?_
  simp only [List.take_succ_cons, List.take_zero, List.drop_succ_cons, List.drop_zero]
  still_step
  still_step
  still_step
  still_step
  still_step
  still_step
  still_step
  still_call (C.out)
  still_step
  still_step
  still_step
  refine wpStill_nil ?_
  change wpList _ _ _ _ _ w.drew
  have hf2 : w.drew.frozen? ⟨g, 4, none⟩ = false := hf
  clear hf hs hl
  go_wp2
  go_end0
  exact ⟨rfl, 1, rfl⟩
end Go.Proofs.YtjijdabbhfefjaaGreatDoor
