/- The reference's PrimitiveRoot. -/
import Derived.Test.YtjmldlbiihaefaaDoorAriQ
import Derived.Test.YtjmldlbiihaefaaDoorRefJ
namespace Go.Proofs.YtjmldlbiihaefaaDoor
open Go.RowKit HP

theorem inv_unit {a m : Int} (h1 : 1 ≤ m) (h2 : m ≤ 2147483647) (hg : Int.gcd a m = 1) : (invOut a m).2 = 0 := by
  rcases inv_cases a m with ⟨h, _⟩ | ⟨_, ⟨h, _⟩ | ⟨_, e⟩⟩
  · omega
  · exact absurd hg h
  · rw [e]

set_option maxHeartbeats 1000000 in
set_option maxRecDepth 100000 in
theorem rproot_any (p g : Nat) (w : World) (hp : Prm p) (hp2 : p ≤ 2147483647) (hg1 : 1 ≤ g) (hg2 : g < p) (hg : IsOrd g p (p - 1)) (hmin : ∀ r : Nat, 1 ≤ r → r < g → ¬ IsOrd r p (p - 1)) :
    Calls Tryd.prog 41 #[.int .i64 p] w fun x w' => x = .returned (.int .i64 g) ∧ Below w.heap.size w w' := by
  have co : ∀ r d : Nat, 1 ≤ r → r < p → IsOrd r p d → d ∣ p - 1 → ∀ w, Calls Tryd.prog 36 #[.int .i64 r, .int .i64 p] w fun x w' => x = .returned (.tuple #[.int .i64 d, .int .i64 0]) ∧ Below w.heap.size w w' := fun r d h1 h2 h3 h4 w =>
    rorder_ok r p d w hp.pos hp2 (inv_unit (by omega) (by omega) (unit_prime hp h1 h2)) h3 (by rw [phi_prime hp, Int.toNat_natCast]; exact h4)
  have hpo := fun r => prime_order (r := r) hp hp2
  have h2p := hp.1
  have CO := Lib.hid co
  have HPO := Lib.hid hpo
  have HG := Lib.hid hg
  have HMIN := Lib.hid hmin
  clear co hpo hg hmin hp
  go_enter Tryd.func41, Tryd.ntmps41
  go_wp2
  go_loopw [3] (fun y wr => ∃ r : Nat, y = .int .i64 r ∧ 1 ≤ r ∧ r ≤ g ∧ Hid (Below w.heap.size w wr)) (fun y _ => g - (intOf y).toNat)
  case atStart => exact ⟨1, rfl, by omega, by omega, Below.refl _ _⟩
  case round =>
    obtain ⟨r, rfl, h1, h2, HB⟩ := hrel
    have hsz := HB.out.size
    obtain ⟨d, hd, hdv, hdb⟩ := HPO.out r h1 (by omega)
    have c := CO.out r d h1 (by omega) hd hdv
    by_cases hr : r = g
    · subst hr
      have e : d = p - 1 := hd.unique HG.out
      have t : ((d : Int) == (p : Int) - 1) = true := by
        rw [beq_iff_eq]; omega
      have C := Lib.hid c
      clear c hd hdv e
      go_wp2_with (go_at_call 36; refine (C.out _).mono ?_; rintro x w' ⟨rfl, hb⟩)
      go_ret
      exact ⟨rfl, HB.out.trans (hb.mono hsz)⟩
    · have e : d ≠ p - 1 := fun e => HMIN.out r h1 (by omega) (e ▸ hd)
      have t : ((d : Int) == (p : Int) - 1) = false := by
        rw [beq_eq_false_iff_ne]; omega
      have C := Lib.hid c
      clear c hd hdv e
      go_wp2_with (go_at_call 36; refine (C.out _).mono ?_; rintro x w' ⟨rfl, hb⟩)
      have HB' := Lib.hid (HB.out.trans (hb.mono hsz))
      clear hb
      go_roundw
      case rel => exact ⟨r + 1, by go_num, by omega, by omega, HB'.out⟩
      case measure => simp [intOf]; omega
end Go.Proofs.YtjmldlbiihaefaaDoor
