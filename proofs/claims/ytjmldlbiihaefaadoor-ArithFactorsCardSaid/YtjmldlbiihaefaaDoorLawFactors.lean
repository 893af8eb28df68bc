/- The law ArithFactors: its walk. -/
import Derived.Test.YtjmldlbiihaefaaDoorAriS
import Derived.Test.YtjmldlbiihaefaaDoorAriL
import Derived.Test.YtjmldlbiihaefaaDoorRefJ
namespace Go.Proofs.YtjmldlbiihaefaaDoor
open Go.RowKit HP

theorem PPAt.below {B C : Nat} {w w' : World} {v : Value} {l : List (Nat × Nat)} (h : PPAt B w v l) (hb : Below C w w') (hC : w.heap.size ≤ C) : PPAt B w' v l := by
  rcases h with h | ⟨g, cap, h1, h2, h3, h4⟩
  · exact .inl h
  · exact .inr ⟨g, cap, h1, h2, by have := hb.size; omega, fun i p e hi => ⟨(hb.cell (p := ⟨g, i * 2, none⟩) (show g < C by omega)).trans (h4 i p e hi).1, (hb.cell (p := ⟨g, i * 2 + 1, none⟩) (show g < C by omega)).trans (h4 i p e hi).2⟩⟩
theorem pw_step {p i k : Nat} {l : List (Nat × Nat)} (h1 : 1 ≤ prodL pwF (l.take i)) (hp : 2 ≤ p) {e : Nat} (hk : k ≤ e) {N : Int} (hb : prodL pwF (l.take i) * (p : Int) ^ e ≤ N) : 1 ≤ prodL pwF (l.take i) * (p : Int) ^ k ∧ prodL pwF (l.take i) * (p : Int) ^ k ≤ N := by
  have a1 : 1 ≤ (p : Int) ^ k := by
    have : 0 < p ^ k := Nat.pow_pos (by omega)
    have h : ((1 : Nat) : Int) ≤ ((p ^ k : Nat) : Int) := Int.ofNat_le.2 this
    rw [Int.natCast_pow] at h
    exact h
  have a2 : (p : Int) ^ k ≤ (p : Int) ^ e := by
    have h : ((p ^ k : Nat) : Int) ≤ ((p ^ e : Nat) : Int) := Int.ofNat_le.2 (Nat.pow_le_pow_right (by omega) hk)
    rw [Int.natCast_pow, Int.natCast_pow] at h
    exact h
  constructor
  · have := Int.mul_le_mul h1 a1 (by omega) (by omega)
    simpa using this
  · exact Int.le_trans (Int.mul_le_mul_of_nonneg_left a2 (by omega)) hb

set_option maxHeartbeats 2000000 in
set_option maxRecDepth 100000 in
theorem factors_bad (n : Int) (w : World) (hT : TabW w) (hB : 0 < w.heap.size) (h : n < 1 ∨ 2147483647 < n) :
    Calls Tryd.prog 12 #[.int .i64 n] w fun x w' => x = .returned (.bool true) ∧ Below w.heap.size w w' := by
  have CAW := Lib.hid (awake_any w hT hB)
  have C1 := Lib.hid fun w => factor_no n w h
  have C2 := Lib.hid fun w => divisors_no n w h
  have C3 := Lib.hid fun w => rinRange_no n w h
  clear hT h
  go_enter Tryd.func12, Tryd.ntmps12
  go_wp2_with fail
  refine CAW.out.mono ?_
  rintro x w1 ⟨rfl, hb1⟩
  have HB1 := Lib.hid hb1
  clear hb1
  go_wp2_with (first
    | (go_at_call 42; refine (C1.out _).mono ?_; rintro x w' ⟨rfl, rfl⟩)
    | (go_at_call 43; refine (C2.out _).mono ?_; rintro x w' ⟨rfl, rfl⟩)
    | (go_at_call 37; refine (C3.out _).mono ?_; rintro x w' ⟨rfl, rfl⟩))
  go_ret
  exact ⟨rfl, HB1.out⟩

set_option maxHeartbeats 4000000 in
set_option maxRecDepth 100000 in
theorem factors_ok (N : Nat) (w : World) (hT : TabW w) (hB : 0 < w.heap.size) (hN0 : 1 ≤ N) (hN : N ≤ 2147483647) :
    Calls Tryd.prog 12 #[.int .i64 N] w fun x w' => x = .returned (.bool true) ∧ Below w.heap.size w w' := by
  have CAW := Lib.hid (awake_any w hT hB)
  have c1 := fun w => factor_any N w hN0 hN
  have c2 := fun w => divisors_any N w hN0 hN
  have C3 := Lib.hid fun w => rinRange_yes (N : Int) w (by omega) (by omega)
  have c4 := fun w => rfactor_any N w (by omega) (by omega)
  have c5 := fun w => rdivisors_any N w hN0 hN
  have hpw : prodL pwF (facs N) = N := prod_facs N (by omega)
  have hcnt := dvs_len (N := N) (by omega)
  have hpre := fun i => prefix_pw (n := N) (by omega) (List.take_append_drop i (facs N)).symm
  have hcpre := fun i => cnt_bd (N := N) (by omega) (List.take_append_drop i (facs N)).symm
  have hflen := facs_len (n := N) (by omega)
  have hbd : ∀ (i p e : Nat), (facs N)[i]? = some (p, e) → 2 ≤ p ∧ p ≤ 2147483647 ∧ e ≤ 2147483647 := fun i p e h => by
    obtain ⟨a, b, c, d, f, _⟩ := facs_bounds (show 0 < N by omega) (List.mem_of_getElem? h)
    exact ⟨b, by omega, by omega⟩
  have hdpos : 1 ≤ (dvs N).length := List.length_pos_of_mem ((dvs_mem (show 0 < N by omega)).2 (Nat.dvd_refl N))
  rw [← intL_len] at hcnt hdpos
  generalize facs N = l at *
  generalize intL (dvs N) = DL at *
  have C1 := Lib.hid c1
  have C2 := Lib.hid c2
  have C4 := Lib.hid c4
  have C5 := Lib.hid c5
  have HPW := Lib.hid hpw
  have HCNT := Lib.hid hcnt
  have HPRE := Lib.hid hpre
  have HCPRE := Lib.hid hcpre
  have HBD := Lib.hid hbd
  clear hT c1 c2 c4 c5 hpw hcnt hpre hcpre hbd
  go_enter Tryd.func12, Tryd.ntmps12
  go_wp2_with fail
  refine CAW.out.mono ?_
  rintro x w1 ⟨rfl, hb1⟩
  have hs1 := hb1.size
  have HB1 := Lib.hid hb1
  clear hb1
  go_wp2_with fail
  refine (C1.out _).mono ?_
  rintro x w2 ⟨v, rfl, hv, hb2⟩
  have hs2 := hb2.size
  have HB2 := Lib.hid (HB1.out.trans (hb2.mono hs1))
  clear hb2
  go_wp2_with fail
  refine (C2.out _).mono ?_
  rintro x w3 ⟨d, rfl, hd, hb3⟩
  have hs3 := hb3.size
  have HB3 := Lib.hid (HB2.out.trans (hb3.mono (by omega)))
  have hv3 := PPAt.below hv hb3 (Nat.le_refl _)
  clear hb3 hv
  go_wp2_with (go_at_call 37; refine (C3.out _).mono ?_; rintro x w' ⟨rfl, rfl⟩)
  refine (C4.out _).mono ?_
  rintro x w4 ⟨u, rfl, hu, hb4⟩
  have hs4 := hb4.size
  have HB4 := Lib.hid (HB3.out.trans (hb4.mono (by omega)))
  have hv4 := PPAt.below hv3 hb4 (Nat.le_refl _)
  have hd4 := IntsAt.below hd hb4 (Nat.le_refl _)
  clear hb4 hv3 hd
  have HD4 := Lib.hid hd4
  rcases hd4 with ⟨_, h0⟩ | ⟨gd, capd, rfl, _, _, _, _, _⟩
  · rw [h0] at hdpos
    simp at hdpos
  rcases hv4 with ⟨rfl, rfl⟩ | ⟨g, cap, rfl, _, hg2, hcv⟩
  · rcases hu with ⟨rfl, _⟩ | ⟨g', cap', rfl, _, _, _⟩
    · have e1 : (N : Int) = 1 := HPW.out.symm
      have e2 : (DL.length : Int) = 1 := HCNT.out
      obtain rfl : N = 1 := by omega
      have t1 : DL.length = 1 := by omega
      have T1 := Lib.hid t1
      clear e1 e2 t1
      go_wp2_with fail
      refine (C5.out _).mono ?_
      rintro x w5 ⟨d', rfl, hd', hb5⟩
      have hs5 := hb5.size
      have HB5 := Lib.hid (HB4.out.trans (hb5.mono (by omega)))
      have hd5 := IntsAt.below HD4.out hb5 (Nat.le_refl _)
      have HBB5 := Lib.hid hb5
      clear hb5
      go_wp2_with fail
      refine (ints_same hd5 hd').mono ?_
      rintro x w' ⟨rfl, k6, rfl⟩
      clear hd5 hd'
      have t1 := T1.out
      go_wp2
      refine wp_loop_rounds 1 ?_
      rw [rounds_succ]
      go_wp2
      go_ret
      exact ⟨rfl, below_drewN HB5.out _⟩
    · have e1 : (N : Int) = 1 := HPW.out.symm
      have e2 : (DL.length : Int) = 1 := HCNT.out
      obtain rfl : N = 1 := by omega
      have t1 : DL.length = 1 := by omega
      have T1 := Lib.hid t1
      clear e1 e2 t1
      go_wp2_with fail
      refine (C5.out _).mono ?_
      rintro x w5 ⟨d', rfl, hd', hb5⟩
      have hs5 := hb5.size
      have HB5 := Lib.hid (HB4.out.trans (hb5.mono (by omega)))
      have hd5 := IntsAt.below HD4.out hb5 (Nat.le_refl _)
      have HBB5 := Lib.hid hb5
      clear hb5
      go_wp2_with fail
      refine (ints_same hd5 hd').mono ?_
      rintro x w' ⟨rfl, k6, rfl⟩
      clear hd5 hd'
      have t1 := T1.out
      go_wp2
      refine wp_loop_rounds 1 ?_
      rw [rounds_succ]
      go_wp2
      go_ret
      exact ⟨rfl, below_drewN HB5.out _⟩
  · rcases hu with ⟨rfl, rfl⟩ | ⟨g', cap', rfl, hg1', hg2', hcu⟩
    · have e1 : (N : Int) = 1 := HPW.out.symm
      have e2 : (DL.length : Int) = 1 := HCNT.out
      obtain rfl : N = 1 := by omega
      have t1 : DL.length = 1 := by omega
      have T1 := Lib.hid t1
      clear e1 e2 t1
      go_wp2_with fail
      refine (C5.out _).mono ?_
      rintro x w5 ⟨d', rfl, hd', hb5⟩
      have hs5 := hb5.size
      have HB5 := Lib.hid (HB4.out.trans (hb5.mono (by omega)))
      have hd5 := IntsAt.below HD4.out hb5 (Nat.le_refl _)
      have HBB5 := Lib.hid hb5
      clear hb5
      go_wp2_with fail
      refine (ints_same hd5 hd').mono ?_
      rintro x w' ⟨rfl, k6, rfl⟩
      clear hd5 hd'
      have t1 := T1.out
      go_wp2
      refine wp_loop_rounds 1 ?_
      rw [rounds_succ]
      go_wp2
      go_ret
      exact ⟨rfl, below_drewN HB5.out _⟩
    · have HCV := Lib.hid hcv
      have HCU := Lib.hid hcu
      clear hcv hcu
      go_wp2_with fail
      refine (C5.out _).mono ?_
      rintro x w5 ⟨d', rfl, hd', hb5⟩
      have hs5 := hb5.size
      have HB5 := Lib.hid (HB4.out.trans (hb5.mono (by omega)))
      have hd5 := IntsAt.below HD4.out hb5 (Nat.le_refl _)
      have HBB5 := Lib.hid hb5
      clear hb5
      go_wp2_with fail
      refine (ints_same hd5 hd').mono ?_
      rintro x w' ⟨rfl, k6, rfl⟩
      clear hd5 hd'
      have hcv : ∀ (i p e : Nat), l[i]? = some (p, e) → w5.cell? ⟨g, i * 2, none⟩ = some (.int .i64 p) ∧ w5.cell? ⟨g, i * 2 + 1, none⟩ = some (.int .i64 e) := fun i p e h =>
        ⟨(HBB5.out.cell (p := ⟨g, i * 2, none⟩) hg2).trans (HCV.out i p e h).1, (HBB5.out.cell (p := ⟨g, i * 2 + 1, none⟩) hg2).trans (HCV.out i p e h).2⟩
      have hcu : ∀ (i p e : Nat), l[i]? = some (p, e) → w5.cell? ⟨g', i * 2, none⟩ = some (.int .i64 p) ∧ w5.cell? ⟨g', i * 2 + 1, none⟩ = some (.int .i64 e) := fun i p e h =>
        ⟨(HBB5.out.cell (p := ⟨g', i * 2, none⟩) hg2').trans (HCU.out i p e h).1, (HBB5.out.cell (p := ⟨g', i * 2 + 1, none⟩) hg2').trans (HCU.out i p e h).2⟩
      have HV5 := Lib.hid hcv
      have HU5 := Lib.hid hcu
      clear hcv hcu HCV HCU HBB5 HD4
      go_wp2
      go_loopw [8, 9, 10] (fun x8 x9 x10 wr => ∃ (i k : Nat) (P M : Int), x8 = .int .i64 P ∧ x9 = .int .i64 M ∧ x10 = .int .i64 i ∧ i ≤ l.length ∧ Hid (P = prodL pwF (l.take i)) ∧ Hid (M = prodL cntF (l.take i)) ∧ wr = w5.drewN k) (fun _ _ y _ => l.length - (intOf y).toNat)
      case atStart => exact ⟨0, k6, 1, 1, rfl, rfl, rfl, Nat.zero_le _, by rw [Hid, List.take_zero]; rfl, by rw [Hid, List.take_zero]; rfl, rfl⟩
      case round =>
        obtain ⟨i, k, P, M, rfl, rfl, rfl, h1, HP, HM, rfl⟩ := hrel
        by_cases hi : i < l.length
        · obtain ⟨p, e, hl⟩ : ∃ p e, l[i]? = some (p, e) := ⟨(l[i]'hi).1, (l[i]'hi).2, by rw [List.getElem?_eq_getElem hi]⟩
          obtain ⟨c1, c2⟩ := HV5.out i p e hl
          obtain ⟨d1, d2⟩ := HU5.out i p e hl
          obtain ⟨q1, q2, q3⟩ := HBD.out i p e hl
          have n1 := prodL_next pwF hl
          have n2 := prodL_next cntF hl
          have b1 := HPRE.out i
          have b2 := HPRE.out (i + 1)
          have m1 := HCPRE.out i
          have m2 := HCPRE.out (i + 1)
          have hstep : ∀ k, k ≤ e → 1 ≤ P * (p : Int) ^ k ∧ P * (p : Int) ^ k ≤ N := fun k hk => by
            rw [HP.out]
            exact pw_step b1.1 q1 hk (by rw [n1] at b2; exact b2.2)
          rw [n1] at b2
          rw [n2] at m2
          rw [← HM.out] at m1 m2
          have HSTEP := Lib.hid hstep
          have N1 := Lib.hid n1
          have N2 := Lib.hid n2
          have mm1 : 1 ≤ M * ((e : Int) + 1) := m2.1
          have mm2 : M * ((e : Int) + 1) ≤ N := m2.2
          clear hl n1 n2 b1 b2 hstep m2
          go_wp2
          go_region
          go_wp2
          go_loop [8, 11] (fun x8 x11 => ∃ (j : Nat) (Q : Int), x8 = .int .i64 Q ∧ x11 = .int .i64 j ∧ j ≤ e ∧ Hid (Q = P * (p : Int) ^ j)) (fun _ y => e - (intOf y).toNat)
          case atStart => exact ⟨0, P, rfl, rfl, Nat.zero_le _, by rw [Hid, Int.pow_zero, Int.mul_one]⟩
          case round =>
            obtain ⟨j, Q, rfl, rfl, j1, HQ⟩ := hrel
            by_cases hj : j < e
            · have hje : (j : Int) < (e : Int) := by omega
              have e3 : Q * (p : Int) = P * (p : Int) ^ (j + 1) := by rw [HQ.out, Int.pow_succ, Int.mul_assoc]
              have e4 := HSTEP.out (j + 1) (by omega)
              rw [← e3] at e4
              obtain ⟨e5, e6⟩ := e4
              have E3 := Lib.hid e3
              clear e3 HQ
              go_wp2
              go_round
              case rel => exact ⟨j + 1, _, rfl, by go_num, by omega, E3.out⟩
              case measure => simp [intOf]; omega
            · obtain rfl : j = e := by omega
              have hP : Q = prodL pwF (l.take (i + 1)) := by
                rw [N1.out, HQ.out, HP.out]; rfl
              have hM : M * ((j : Int) + 1) = prodL cntF (l.take (i + 1)) := by
                rw [N2.out, HM.out]; rfl
              have HP' := Lib.hid hP
              have HM' := Lib.hid hM
              clear hP hM HP HM HQ HSTEP
              go_wp2
              go_roundw
              case rel => exact ⟨i + 1, _, Q, _, rfl, rfl, by go_num, by omega, HP'.out, HM'.out, rfl⟩
              case measure => simp [intOf]; omega
        · obtain rfl : i = l.length := by omega
          have e1 := HP.out
          have e2 := HM.out
          rw [List.take_length, HPW.out] at e1
          rw [List.take_length, ← HCNT.out] at e2
          subst e1 e2
          clear HP HM
          go_wp2
          go_ret
          exact ⟨rfl, below_drewN HB5.out _⟩

theorem factors_law (n : Int) (w : World) (hT : TabW w) (hB : 0 < w.heap.size) (_ : -9223372036854775808 ≤ n) (_ : n ≤ 9223372036854775807) :
    Calls Tryd.prog 12 #[.int .i64 n] w fun x w' => x = .returned (.bool true) ∧ Below w.heap.size w w' := by
  by_cases h : n < 1 ∨ 2147483647 < n
  · exact factors_bad n w hT hB h
  · obtain ⟨N, rfl⟩ := Int.eq_ofNat_of_zero_le (show 0 ≤ n by omega)
    exact factors_ok N w hT hB (by omega) (by omega)
end Go.Proofs.YtjmldlbiihaefaaDoor
