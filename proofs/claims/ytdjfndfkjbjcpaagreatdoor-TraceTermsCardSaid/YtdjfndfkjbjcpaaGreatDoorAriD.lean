/- Walks of arith: powers, ranges, products over the factorization. -/
import Derived.Test.YtdjfndfkjbjcpaaGreatDoorAriC
import Derived.Test.YtdjfndfkjbjcpaaGreatDoorNumA
import Derived.Handy
import Derived.Deep.RegionWith
namespace Go.Proofs.YtdjfndfkjbjcpaaGreatDoor
open Go.RowKit HP

set_option maxHeartbeats 400000 in
theorem power_any (p e : Nat) (w : World) (hp : 1 ≤ p) (_ : p ≤ 2147483648) (h : p ^ e ≤ 2147483648) (he : e ≤ 2147483648) :
    Calls Tryz.prog 78 #[.int .i64 p, .int .i64 e] w fun x w' => x = .returned (.int .i64 ((p ^ e : Nat) : Int)) ∧ w = w' := by
  go_enter Tryz.func78, Tryz.ntmps78
  go_wp2
  go_loop [5, 7] (fun x y => ∃ (k q : Nat), y = .int .i64 k ∧ x = .int .i64 q ∧ k ≤ e ∧ q ≤ 2147483648 ∧ Hid (q = p ^ k)) (fun _ y => e - (intOf y).toNat)
  case atStart => exact ⟨0, 1, rfl, rfl, by omega, by omega, rfl⟩
  case round =>
    obtain ⟨k, q, rfl, rfl, h1, h2, h3⟩ := hrel
    by_cases hk : k < e
    · have h4 : q * p ≤ 2147483648 := by
        have e1 := h3.out
        rw [e1, ← Nat.pow_succ]
        exact Nat.le_trans (Nat.pow_le_pow_right hp (by omega)) h
      have h5 : (q : Int) * p = ((q * p : Nat) : Int) := by simp
      have h6 : q * p = p ^ (k + 1) := by rw [Nat.pow_succ, ← h3.out]
      have H6 := Lib.hid h6
      clear h6 h
      generalize q * p = r at *
      go_wp2
      go_round
      case rel => exact ⟨k + 1, r, by go_num, by rw [← h5], by omega, h4, H6⟩
      case measure => simp [intOf]; omega
    · obtain rfl : k = e := by omega
      go_wp2
      go_ret
      exact ⟨ret_int (by rw [h3.out]; simp), rfl⟩
theorem inRange_yes (n : Int) (w : World) (h1 : 1 ≤ n) (h2 : n ≤ 2147483647) :
    Calls Tryz.prog 47 #[.int .i64 n] w fun x w' => x = .returned (.bool true) ∧ w = w' := by
  have h3 : decide (n ≤ 2147483647) = true := by simpa using h2
  go_enter Tryz.func47, Tryz.ntmps47
  go_wp2
  go_ret
  exact ⟨rfl, rfl⟩
theorem inRange_no (n : Int) (w : World) (h : n < 1 ∨ 2147483647 < n) :
    Calls Tryz.prog 47 #[.int .i64 n] w fun x w' => x = .returned (.bool false) ∧ w = w' := by
  rcases h with h | h
  · have h3 : ¬ 1 ≤ n := by omega
    have h4 : decide (1 ≤ n) = false := by simpa using h3
    go_enter Tryz.func47, Tryz.ntmps47
    go_wp2
    go_ret
    exact ⟨rfl, rfl⟩
  · have h3 : ¬ n ≤ 2147483647 := by omega
    have h4 : decide (n ≤ 2147483647) = false := by simpa using h3
    have h5 : 1 ≤ n := by omega
    go_enter Tryz.func47, Tryz.ntmps47
    go_wp2
    go_ret
    exact ⟨rfl, rfl⟩

set_option maxHeartbeats 400000 in
theorem phi1_any (p e : Nat) (w : World) (hp : 1 ≤ p) (hp2 : p ≤ 2147483648) (he : 1 ≤ e) (he2 : e ≤ 2147483648) (h : p ^ (e - 1) ≤ 2147483648) :
    Calls Tryz.prog 91 #[.int .i64 p, .int .i64 e] w fun x w' => x = .returned (.int .i64 ((p ^ (e - 1) * (p - 1) : Nat) : Int)) ∧ w = w' := by
  have c := power_any p (e - 1) w hp hp2 h (by omega)
  have ec : ((e - 1 : Nat) : Int) = (e : Int) - 1 := by omega
  rw [ec] at c
  generalize p ^ (e - 1) = q at *
  have hb : q * (p - 1) ≤ 2147483648 * 2147483648 := Nat.mul_le_mul h (by omega)
  have hpc : (q : Int) * ((p : Int) - 1) = ((q * (p - 1) : Nat) : Int) := by
    have : ((p - 1 : Nat) : Int) = (p : Int) - 1 := by omega
    rw [Int.natCast_mul, this]
  have C := Lib.hid c
  clear c ec
  generalize q * (p - 1) = r at *
  go_enter Tryz.func91, Tryz.ntmps91
  go_wp2_with (go_at_call 78; refine C.out.mono ?_; rintro x w' ⟨rfl, rfl⟩)
  go_ret
  exact ⟨rfl, rfl⟩

set_option maxHeartbeats 400000 in
theorem product1_any (p e x y : Int) (bo be : Nat) (g : Nat) (he : ∀ args w, (callFunc g args).run Tryz.prog w = .ok (.enter g args) w) (w : World)
    (h1 : w.cell? ⟨bo, 0, none⟩ = some (.int .i64 x)) (h2 : w.frozen? ⟨bo, 0, none⟩ = false) (h3 : w.cell? ⟨be, 0, none⟩ = some (.func (.func g) #[] #[]))
    (hc : ∀ w, Calls Tryz.prog g #[.int .i64 p, .int .i64 e] w fun x w' => x = .returned (.int .i64 y) ∧ w = w') :
    Calls Tryz.prog 121 #[.int .i64 p, .int .i64 e, .pointer (some ⟨bo, 0, none⟩), .pointer (some ⟨be, 0, none⟩)] w fun x' w' => x' = .returned (.tuple #[]) ∧ ∃ m, w' = (w.setCell ⟨bo, 0, none⟩ (.int .i64 (wrap64 (x * y)))).drewN m := by
  have HC := Lib.hid hc
  clear hc
  go_enter Tryz.func121, Tryz.ntmps121
  go_wp2
  go_region_with (go_at_fn g; refine (HC.out _).mono ?_; rintro x w' ⟨rfl, rfl⟩)
  all_goals go_end0
  all_goals exact ⟨rfl, 1, by rw [IntWalk.i64_left]; rfl⟩

theorem enters121 (args : Array Value) (w : World) : (callFunc 121 args).run Tryz.prog w = .ok (.enter 121 args) w := enters_of Tryz.func121 (by kernel_rfl) rfl args w

def ProdI (f : Nat → Nat → Int) (g : Nat) (w : World) (l : List (Nat × Nat)) (wr : World) : Prop :=
  wr.cell? ⟨w.heap.size + 1, 0, none⟩ = some (.int .i64 (prodL f l)) ∧ wr.frozen? ⟨w.heap.size + 1, 0, none⟩ = false ∧ wr.cell? ⟨w.heap.size, 0, none⟩ = some (.func (.func g) #[] #[]) ∧ Below w.heap.size w wr

theorem prodI_step {f : Nat → Nat → Int} {g : Nat} {w wr : World} {l : List (Nat × Nat)} {p e : Nat} {m : Nat} (h : ProdI f g w l wr) (hb : -9223372036854775808 ≤ prodL f (l ++ [(p, e)]) ∧ prodL f (l ++ [(p, e)]) ≤ 9223372036854775807) :
    ProdI f g w (l ++ [(p, e)]) ((wr.setCell ⟨w.heap.size + 1, 0, none⟩ (.int .i64 (wrap64 (prodL f l * f p e)))).drewN m) := by
  obtain ⟨h1, h2, h3, h4⟩ := h
  have e1 : prodL f (l ++ [(p, e)]) = prodL f l * f p e := by rw [prodL_append]; simp [prodL]
  rw [e1] at hb
  rw [IntWalk.wrap64_in _ hb, ← e1]
  refine ⟨?_, ?_, ?_, ?_⟩
  · rw [World.cell?_drewN]; exact World.cell?_setCell_same _ _ _ h1
  · rw [World.frozen?_drewN]; exact (World.frozen?_setCell _ _ _ _).trans h2
  · rw [World.cell?_drewN]; exact (World.cell?_setCell_other _ _ _ _ (by simp)).trans h3
  · exact below_drewN (h4.setCell (by simp) _) m

set_option maxHeartbeats 800000 in
theorem product_any (f : Nat → Nat → Int) (g : Nat) (he : ∀ args w, (callFunc g args).run Tryz.prog w = .ok (.enter g args) w) (N : Nat) (w : World) (hN0 : 1 ≤ N) (hN : N ≤ 2147483647)
    (hc : ∀ p e, (p, e) ∈ facs N → ∀ w, Calls Tryz.prog g #[.int .i64 p, .int .i64 e] w fun x w' => x = .returned (.int .i64 (f p e)) ∧ w = w')
    (hb : ∀ l r, facs N = l ++ r → -9223372036854775808 ≤ prodL f l ∧ prodL f l ≤ 9223372036854775807) :
    Calls Tryz.prog 79 #[.int .i64 N, .func (.func g) #[] #[]] w fun x w' => x = .returned (.tuple #[.int .i64 (prodL f (facs N)), .int .i64 0]) ∧ Below w.heap.size w w' := by
  have hmf : ∀ (fn : Fn) (first cap : Array Value) (w : World), (Instr.makeFunc fn first cap).run Tryz.prog w = .ok (.func fn first cap) w := fun _ _ _ _ => rfl
  have HC := Lib.hid hc
  have HB := Lib.hid hb
  have HE := Lib.hid he
  clear hc hb he
  go_enter Tryz.func79, Tryz.ntmps79
  go_wp2_with (go_at_call 47; refine (inRange_yes N _ (by omega) (by omega)).mono ?_; rintro x w' ⟨rfl, rfl⟩)
  refine (factors_any 121 _ enters121 N _ (by omega) (by omega) (ProdI f g w) ?_ ?_).mono ?_
  · refine ⟨?_, ?_, ?_, ?_⟩
    · rw [World.cell?_alloc_at _ _ _ _ (by simp)]; rfl
    · exact World.frozen?_alloc_at _ _ _ _ (by simp)
    · rw [World.cell?_alloc_past _ _ _ (by simp), World.cell?_alloc_at _ _ _ _ rfl]; rfl
    · exact ((Below.refl _ _).alloc (Nat.le_refl _) _).alloc (by simp) _
  · intro l p e r wr hl hI
    have hm : (p, e) ∈ facs N := by rw [hl]; simp
    refine (product1_any p e _ (f p e) (w.heap.size + 1) w.heap.size g HE.out wr hI.1 hI.2.1 hI.2.2.1 (HC.out p e hm)).mono ?_
    rintro x w' ⟨rfl, m, rfl⟩
    exact ⟨rfl, prodI_step hI (HB.out _ r (by rw [hl, List.append_assoc]; rfl))⟩
  · rintro x w' ⟨rfl, hI⟩
    obtain ⟨h1, h2, h3, h4⟩ := hI
    have H1 := h1
    have H4 := Lib.hid h4
    clear h4
    go_wp2
    go_ret2
    exact ⟨rfl, H4.out⟩

theorem enters91 (args : Array Value) (w : World) : (callFunc 91 args).run Tryz.prog w = .ok (.enter 91 args) w := enters_of Tryz.func91 (by kernel_rfl) rfl args w

theorem phi_any (N : Nat) (w : World) (hN0 : 1 ≤ N) (hN : N ≤ 2147483647) :
    Calls Tryz.prog 46 #[.int .i64 N] w fun x w' => x = .returned (.tuple #[.int .i64 (phi N), .int .i64 0]) ∧ Below w.heap.size w w' := by
  have c := product_any phiF 91 enters91 N w hN0 hN
    (fun p e hm w => by
      obtain ⟨a, b, c, d, e1, f1, g1⟩ := facs_bounds (by omega) hm
      exact phi1_any p e w (by omega) (by omega) c (by omega) (by omega))
    (fun l r h => by have := phi_prefix (by omega) h; omega)
  have C := Lib.hid c
  clear c
  go_enter Tryz.func46, Tryz.ntmps46
  go_wp2_with (go_at_call 79; refine C.out.mono ?_; rintro x w' ⟨rfl, hb⟩)
  go_ret2
  exact ⟨rfl, by assumption⟩
end Go.Proofs.YtdjfndfkjbjcpaaGreatDoor
