/- The reference's Phi and Order. -/
import Derived.Test.YtjmldlbiihaefaaDoorRefI
import Derived.Test.YtjmldlbiihaefaaDoorNumA
import Derived.Test.YtjmldlbiihaefaaDoorAriP
namespace Go.Proofs.YtjmldlbiihaefaaDoor
open Go.RowKit HP

set_option maxHeartbeats 1000000 in
set_option maxRecDepth 100000 in
theorem rphi_any (N : Nat) (w : World) (hN0 : 1 ≤ N) (hN : N ≤ 2147483647) :
    Calls Tryd.prog 52 #[.int .i64 N] w fun x w' => x = .returned (.int .i64 (phi N)) ∧ Below w.heap.size w w' := by
  have cf := fun w => rfactor_any N w (by omega) (by omega)
  have hb := phiN_bd (N := N) (by omega)
  have h0 : stepN phiF (facs N) 0 = N := by rw [stepN_zero, natL_facs N (by omega)]
  have he : stepN phiF (facs N) (facs N).length = phi N := stepN_end _ _
  have hs : ∀ (i p e : Nat), (facs N)[i]? = some (p, e) → 2 ≤ p ∧ p ≤ 2147483647 ∧ stepN phiF (facs N) i / (p : Int) * ((p : Int) - 1) = stepN phiF (facs N) (i + 1) ∧ (stepN phiF (facs N) i).tdiv (p : Int) * ((p : Int) - 1) = stepN phiF (facs N) (i + 1) := fun i p e h => by
    obtain ⟨a, b, c, d, _⟩ := facs_bounds (show 0 < N by omega) (List.mem_of_getElem? h)
    exact ⟨b, by omega, stepN_step h (by omega) c (phiF_eq (by omega))⟩
  have hlen := facs_len (n := N) (by omega)
  generalize facs N = l at *
  generalize phi N = R at *
  generalize stepN phiF l = S at *
  have CF := Lib.hid cf
  have HBD := Lib.hid hb
  have H0 := Lib.hid h0
  have HE := Lib.hid he
  have HS := Lib.hid hs
  clear cf hb h0 he hs
  go_enter Tryd.func52, Tryd.ntmps52
  go_wp2_with (go_at_call 44; refine (CF.out _).mono ?_; rintro x w1 ⟨v, rfl, hpp, hb1⟩)
  have HB1 := Lib.hid hb1
  clear hb1
  rcases hpp with ⟨rfl, rfl⟩ | ⟨g, cap, rfl, hg1, hg2, hcells⟩
  · have e : (N : Int) = R := H0.out.symm.trans HE.out
    have E := Lib.hid e
    clear e
    go_wp2
    refine wp_loop_rounds 1 ?_
    rw [rounds_succ]
    go_wp2
    go_ret
    exact ⟨ret_int E.out, HB1.out⟩
  · have HCELLS := Lib.hid hcells
    clear hcells
    go_wp2
    go_loopw [0, 4] (fun x t wr => ∃ (i k : Nat) (s : Int), t = .int .i64 i ∧ x = .int .i64 s ∧ i ≤ l.length ∧ Hid (s = S i) ∧ wr = w1.drewN k) (fun _ t _ => l.length - (intOf t).toNat)
    case atStart => exact ⟨0, 0, N, rfl, rfl, Nat.zero_le _, H0.out.symm, rfl⟩
    case round =>
      obtain ⟨i, k, s, rfl, rfl, h1, h2, rfl⟩ := hrel
      by_cases hi : i < l.length
      · obtain ⟨p, e, hl⟩ : ∃ p e, l[i]? = some (p, e) := ⟨(l[i]'hi).1, (l[i]'hi).2, by rw [List.getElem?_eq_getElem hi]⟩
        obtain ⟨c1, c2⟩ := HCELLS.out i p e hl
        obtain ⟨q1, q2, q3, q4⟩ := HS.out i p e hl
        have b1 := HBD.out i
        have b2 := HBD.out (i + 1)
        rw [← h2.out] at b1 q3 q4
        have hsd : s.tdiv p = s / p := Int.tdiv_eq_ediv_of_nonneg b1.1
        have hq0 : 0 ≤ s / (p : Int) := Int.ediv_nonneg b1.1 (by omega)
        have hq1 : s / (p : Int) ≤ s := Int.ediv_le_self _ b1.1
        generalize s / (p : Int) = q at *
        generalize hS1 : S (i + 1) = s1 at *
        have HS1 := Lib.hid hS1
        clear hS1 q4 h2
        go_wp2
        go_region
        go_wp2
        go_roundw
        case rel => exact ⟨i + 1, k + 1, s1, by go_num, rfl, by omega, HS1.out.symm, rfl⟩
        case measure => simp [intOf]; omega
      · obtain rfl : i = l.length := by omega
        have e := h2.out.trans HE.out
        have E := Lib.hid e
        clear e h2
        go_wp2
        go_ret
        exact ⟨ret_int E.out, by rw [Hid] at HB1; exact below_drewN HB1 k⟩

theorem quiet_drew {P : Program} {f : FuncId} {args : Array Value} {w : World} {n : Nat} {v : Value}
    (h : Calls P f args (w.drewN n) fun e w' => e = .returned v ∧ ∃ k, w' = (w.drewN n).drewN k) : Calls P f args (w.drewN n) fun e w'' => e = .returned v ∧ ∃ m, w'' = w.drewN m :=
  h.mono fun _ _ ⟨he, k, hk⟩ => ⟨he, n + k, by rw [hk, World.drewN_drewN]⟩
theorem quiet_add_drew {P : Program} {f : FuncId} {args : Array Value} {w : World} {a n : Nat} {v : Value}
    (h : Calls P f args (w.drewN (a + n)) fun e w' => e = .returned v ∧ ∃ k, w' = (w.drewN (a + n)).drewN k) :
    Calls P f args (w.drewN (a + n)) fun e w'' => e = .returned v ∧ ∃ m, w'' = w.drewN (a + m) :=
  h.mono fun _ _ ⟨he, k, hk⟩ => ⟨he, n + k, by rw [hk, World.drewN_drewN, Nat.add_assoc]⟩

theorem rorder_err (a m : Int) (w : World) (h : (invOut a m).2 ≠ 0) :
    Calls Tryd.prog 36 #[.int .i64 a, .int .i64 m] w fun x w' => x = .returned (.tuple #[.int .i64 0, .int .i64 (invOut a m).2]) ∧ Below w.heap.size w w' := by
  have c := fun w => rinverse_any a m w
  have ht : ((invOut a m).2 != 0) = true := by rw [bne_iff_ne]; exact h
  generalize (invOut a m).1 = x at *
  generalize (invOut a m).2 = e at *
  have C := Lib.hid c
  clear c h
  go_enter Tryd.func36, Tryd.ntmps36
  go_wp2_with (go_at_call 33; refine (C.out _).mono ?_; rintro x w' ⟨rfl, rfl⟩)
  go_ret2
  exact ⟨rfl, Below.refl _ _⟩

set_option maxHeartbeats 1000000 in
set_option maxRecDepth 100000 in
theorem rorder_ok (a : Int) (M : Nat) (d : Nat) (w : World) (hM0 : 1 ≤ M) (hM : M ≤ 2147483647) (h : (invOut a M).2 = 0) (hd : IsOrd a M d) (hdv : d ∣ (phi M).toNat) :
    Calls Tryd.prog 36 #[.int .i64 a, .int .i64 M] w fun x w' => x = .returned (.tuple #[.int .i64 d, .int .i64 0]) ∧ Below w.heap.size w w' := by
  have c := fun w => rinverse_any a M w
  rw [h] at c
  generalize (invOut a M).1 = x at *
  have cp := fun w => rphi_any M w hM0 hM
  have p1 := phi_pos (m := M) (by omega)
  have p2 := phi_le (m := M) (by omega)
  obtain ⟨F, hF⟩ := Int.eq_ofNat_of_zero_le (show 0 ≤ phi M by omega)
  rw [hF] at cp p1 p2 hdv
  rw [Int.toNat_natCast] at hdv
  have hF0 : 0 < F := by omega
  have hF1 : F ≤ 2147483647 := by omega
  have cd := fun w => rdivisors_any F w (by omega) hF1
  have hfirst := fun i x => first_ord (n := F) (d := d) (i := i) (x := x) hF0 hdv
  have hin : d ∈ dvs F := (dvs_mem hF0).2 hdv
  have hxb : ∀ i x, (dvs F)[i]? = some x → x ≤ 2147483647 := fun i x hx => by
    have := Nat.le_of_dvd hF0 ((dvs_mem hF0).1 (List.mem_of_getElem? hx))
    omega
  have hlen : (dvs F).length ≤ 2147483648 := by
    unfold dvs
    exact Nat.le_trans (List.length_filter_le _ _) (by simp; omega)
  generalize dvs F = D at *
  have C := Lib.hid c
  have CP := Lib.hid cp
  have CD := Lib.hid cd
  have HD := Lib.hid hd
  have HF := Lib.hid hfirst
  have HIN := Lib.hid hin
  have HXB := Lib.hid hxb
  clear c cp cd hd hfirst hin hxb h hdv hF p1 p2
  go_enter Tryd.func36, Tryd.ntmps36
  go_wp2_with (first
    | (go_at_call 33; refine (C.out _).mono ?_; rintro x w' ⟨rfl, rfl⟩)
    | (go_at_call 52; refine (CP.out _).mono ?_; rintro x w1 ⟨rfl, hb1⟩)
    | (go_at_call 45; refine (CD.out _).mono ?_; rintro x w2 ⟨v, rfl, hv, hb2⟩))
  have hb : Below w.heap.size w w2 := hb1.trans (hb2.mono hb1.size)
  have HB := Lib.hid hb
  clear hb hb1 hb2
  rcases hv with ⟨rfl, he⟩ | ⟨g, cap, rfl, hc1, hc2, hc3, hc4, hcells⟩
  · have : D = [] := by unfold intL at he; exact List.map_eq_nil_iff.1 he
    rw [this] at HIN
    exact absurd HIN.out (by simp)
  · have HC := Lib.hid hcells
    clear hcells
    rw [intL_len] at *
    go_wp2
    go_loopw [9] (fun t wr => ∃ (i k : Nat), t = .int .i64 i ∧ i ≤ D.length ∧ Hid (∀ j y, j < i → D[j]? = some y → ¬ d ∣ y) ∧ wr = w2.drewN k) (fun t _ => D.length - (intOf t).toNat)
    case atStart =>
      have h0 : ∀ j y, j < 0 → D[j]? = some y → ¬ d ∣ y := fun j y h => absurd h (Nat.not_lt_zero _)
      exact ⟨0, 0, rfl, Nat.zero_le _, h0, rfl⟩
    case round =>
      obtain ⟨i, k, rfl, h1, h2, rfl⟩ := hrel
      by_cases hi : i < D.length
      · obtain ⟨x, hx⟩ : ∃ x, D[i]? = some x := ⟨D[i]'hi, List.getElem?_eq_getElem hi⟩
        have hcell := HC.out i x (intL_at hx)
        have hxb := HXB.out i x hx
        have q := fun w => rpower_any a x M w (by omega) (by omega) (by omega)
        have t := one_test (n := x) HD.out
        have t' : (a ^ x % (M : Int) == 1 % (M : Int)) = decide (d ∣ x) := by
          have := HD.out.test x
          by_cases h : d ∣ x
          · simp [h, this.2 h]
          · have h3 : ¬ a ^ x % (M : Int) = 1 % (M : Int) := fun h3 => h (this.1 h3)
            simp [h, h3]
        clear t
        have f1 := Int.emod_nonneg (a ^ x) (show (M : Int) ≠ 0 by omega)
        have f2 := Int.emod_lt_of_pos (a ^ x) (show (0 : Int) < M by omega)
        generalize a ^ x % (M : Int) = A at *
        have Q := Lib.hid q
        clear q
        by_cases hdx : d ∣ x
        · have e : x = d := HF.out i x hx hdx h2.out
          subst e
          rw [decide_eq_true hdx] at t'
          clear hx hdx h2
          go_wp2
          go_quiet ((go_at_call 38; first | exact quiet_drew (Q.out _) | exact quiet_add_drew (Q.out _)))
          go_wp2
          go_ret2
          exact ⟨rfl, below_drewN HB.out _⟩
        · rw [decide_eq_false hdx] at t'
          have hn : ∀ j y, j < i + 1 → D[j]? = some y → ¬ d ∣ y := fun j y hj hy => by
            rcases Nat.lt_or_ge j i with h3 | h3
            · exact h2.out j y h3 hy
            · obtain rfl : j = i := by omega
              rw [hx] at hy
              obtain rfl := Option.some.inj hy
              exact hdx
          have HN := Lib.hid hn
          clear hn hx hdx h2
          go_wp2
          go_quiet ((go_at_call 38; first | exact quiet_drew (Q.out _) | exact quiet_add_drew (Q.out _)))
          go_wp2
          go_roundw
          case rel => exact ⟨i + 1, _, by go_num, by omega, HN.out, rfl⟩
          case measure => simp [intOf]; omega
      · obtain rfl : i = D.length := by omega
        obtain ⟨j, hj, hjd⟩ := List.mem_iff_getElem.1 HIN.out
        exact absurd (Nat.dvd_refl d) (h2.out j d hj (List.getElem?_eq_some_iff.2 ⟨hj, hjd⟩))
end Go.Proofs.YtjmldlbiihaefaaDoor
