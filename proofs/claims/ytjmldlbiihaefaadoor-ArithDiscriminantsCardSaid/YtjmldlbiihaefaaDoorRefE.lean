/- The walk of the reference's Fundamental. -/
import Derived.Test.YtjmldlbiihaefaaDoorRefD
import Derived.Test.YtjmldlbiihaefaaDoorNumI
namespace Go.Proofs.YtjmldlbiihaefaaDoor
open Go.RowKit HP

theorem ret3 {k1 k2 k3 : IntKind} {a b c a' b' c' : Int} (h1 : a = a') (h2 : b = b') (h3 : c = c') :
    Ending.returned (.tuple #[.int k1 a, .int k2 b, .int k3 c]) = .returned (.tuple #[.int k1 a', .int k2 b', .int k3 c']) := by rw [h1, h2, h3]

theorem rfund_range (d : Int) (w : World) (h : d = 0 ∨ 2147483647 < d ∨ d < -2147483647) :
    Calls Tryd.prog 19 #[.int .i64 d] w fun x w' => x = .returned (.tuple #[.int .i64 0, .int .i64 0, .int .i64 2]) ∧ Below w.heap.size w w' := by
  by_cases h1 : d = 0
  · obtain rfl := h1
    go_enter Tryd.func19, Tryd.ntmps19
    go_wp2
    go_ret3
    exact ⟨rfl, Below.refl _ _⟩
  · have b1 : (d == 0) = false := beq_eq_false_iff_ne.2 h1
    by_cases h2 : 2147483647 < d
    · have d2 : decide (2147483647 < d) = true := by simpa using h2
      clear h
      go_enter Tryd.func19, Tryd.ntmps19
      go_wp2
      go_ret3
      exact ⟨rfl, Below.refl _ _⟩
    · have d2 : decide (2147483647 < d) = false := by simpa using h2
      have d3 : decide (d < -2147483647) = true := by simp; omega
      clear h
      go_enter Tryd.func19, Tryd.ntmps19
      go_wp2
      go_ret3
      exact ⟨rfl, Below.refl _ _⟩

theorem rfund_bad (d : Int) (w : World) (h : ¬ (d = 0 ∨ 2147483647 < d ∨ d < -2147483647)) (h4 : 1 < d % 4) :
    Calls Tryd.prog 19 #[.int .i64 d] w fun x w' => x = .returned (.tuple #[.int .i64 0, .int .i64 0, .int .i64 15]) ∧ Below w.heap.size w w' := by
  have b1 : (d == 0) = false := beq_eq_false_iff_ne.2 (by omega)
  have d2 : decide (2147483647 < d) = false := by simp; omega
  have d3 : decide (d < -2147483647) = false := by simp; omega
  clear h
  go_enter Tryd.func19, Tryd.ntmps19
  go_wp2_with (go_at_call 22; refine (rmod_any d 4 _ (by omega) (by omega)).mono ?_; rintro x w' ⟨rfl, rfl⟩)
  go_ret3
  exact ⟨rfl, Below.refl _ _⟩

set_option maxHeartbeats 4000000 in
set_option maxRecDepth 100000 in
theorem rfund_ok (d : Int) (w : World) (h : ¬ (d = 0 ∨ 2147483647 < d ∨ d < -2147483647)) (h4 : ¬ 1 < d % 4) :
    Calls Tryd.prog 19 #[.int .i64 d] w fun x w' => x = .returned (.tuple #[.int .i64 (fundOut d).1, .int .i64 (fundOut d).2.1, .int .i64 (fundOut d).2.2]) ∧ Below w.heap.size w w' := by
  have b1 : (d == 0) = false := beq_eq_false_iff_ne.2 (by omega)
  have d2 : decide (2147483647 < d) = false := by simp; omega
  have d3 : decide (d < -2147483647) = false := by simp; omega
  have hout : (fundT d % 4 = 1 → fundOut d = (fundT d, sqL (facs d.natAbs), 0)) ∧ (¬ fundT d % 4 = 1 → fundOut d = (4 * fundT d, sqL (facs d.natAbs) / 2, 0)) := by
    rcases fund_cases d with ⟨_, e⟩ | ⟨_, _, e⟩ | ⟨_, _, ⟨h3, e⟩ | ⟨h3, e⟩⟩
    · exact absurd e h
    · exact absurd e h4
    · exact ⟨fun _ => e, fun x => absurd h3 x⟩
    · exact ⟨fun x => absurd x h3, fun _ => e⟩
  unfold fundT at hout
  have hd : (d < 0 ∧ d = -(d.natAbs : Int)) ∨ (0 < d ∧ d = (d.natAbs : Int)) := by omega
  have hn0 : 0 < d.natAbs := by omega
  have hn1 : d.natAbs ≤ 2147483647 := by omega
  generalize d.natAbs = n at *
  have cf := fun w => rfactor_any n w hn0 (by omega)
  have hbd : ∀ p e, (p, e) ∈ facs n → 2 ≤ p ∧ p ≤ n ∧ e ≤ n := fun p e hx => by
    obtain ⟨_, b, c, d, f, _⟩ := facs_bounds hn0 hx
    exact ⟨b, d, f⟩
  have hft := fr_take hn0
  have hqt := sq_take hn0
  have hfl := facs_len hn0
  have hfb := fr_bd hn0 (r := []) (List.append_nil _).symm
  have hqb := sq_bd hn0 (r := []) (List.append_nil _).symm
  generalize facs n = l at *
  obtain ⟨fb1, fb2⟩ := hfb
  obtain ⟨qb1, qb2⟩ := hqb
  generalize hFr : frL l = Fr at *
  generalize hSq : sqL l = Sq at *
  obtain ⟨hT1, hT2⟩ := hout
  have CF := Lib.hid cf
  have HBD := Lib.hid hbd
  have HFT := Lib.hid hft
  have HQT := Lib.hid hqt
  have HFR := Lib.hid hFr
  have HSQ := Lib.hid hSq
  have h4' : d % 4 ≤ 1 := by omega
  clear cf hbd hft hqt hFr hSq h h4
  rcases hd with ⟨hd, rfl⟩ | ⟨hd, rfl⟩
  · rw [if_pos hd, Int.neg_mul, Int.one_mul] at hT1 hT2
    go_enter Tryd.func19, Tryd.ntmps19
    go_wp2_with (first
      | (go_at_call 22; refine (rmod_any (-(n : Int)) 4 _ (by omega) (by omega)).mono ?_; rintro x w' ⟨rfl, rfl⟩)
      | (go_at_call 44; refine (CF.out _).mono ?_; rintro x w1 ⟨v, rfl, hpp, hb1⟩))
    have HB1 := Lib.hid hb1
    clear hb1
    rcases hpp with ⟨rfl, rfl⟩ | ⟨g, cap, rfl, hg1, hg2, hcells⟩
    · have e5 := HFR.out
      have e6 := HSQ.out
      simp [frL, sqL, prodL] at e5 e6
      obtain rfl := e5
      obtain rfl := e6
      go_wp2
      refine wp_loop_rounds 1 ?_
      rw [rounds_succ]
      have OUT := Lib.hid (hT2 (by decide))
      clear hT1 hT2
      go_wp2_with (go_at_call 22; refine (rmod_any (-1) 4 _ (by omega) (by omega)).mono ?_; rintro x w' ⟨rfl, rfl⟩)
      go_ret3
      exact ⟨by rw [OUT.out]; rfl, HB1.out⟩
    · have HCELLS := Lib.hid hcells
      clear hcells
      go_wp2
      go_loop [7, 8, 10] (fun s7 s8 t => ∃ (i : Nat) (fr sq : Int), t = .int .i64 i ∧ s7 = .int .i64 fr ∧ s8 = .int .i64 sq ∧ i ≤ l.length ∧ 1 ≤ fr ∧ fr ≤ n ∧ 1 ≤ sq ∧ sq ≤ n ∧ Hid (fr = frL (l.take i)) ∧ Hid (sq = sqL (l.take i))) (fun _ _ t => l.length - (intOf t).toNat)
      case atStart => exact ⟨0, 1, 1, rfl, rfl, rfl, Nat.zero_le _, by omega, by omega, by omega, by omega, by rw [Hid]; simp [frL, prodL], by rw [Hid]; simp [sqL, prodL]⟩
      case round =>
        obtain ⟨i, fr, sq, rfl, rfl, rfl, h1, f1, f2, q1, q2, h5, h6⟩ := hrel
        by_cases hi : i < l.length
        · obtain ⟨p, e, hl⟩ : ∃ p e, l[i]? = some (p, e) := ⟨(l[i]'hi).1, (l[i]'hi).2, by rw [List.getElem?_eq_getElem hi]⟩
          obtain ⟨c1, c2⟩ := HCELLS.out i p e hl
          have hmem : (p, e) ∈ l := List.mem_of_getElem? hl
          obtain ⟨p1, p2, p3⟩ := HBD.out p e hmem
          have hfn := prodL_next frF hl
          have hqn := prodL_next sqF hl
          rw [← frL_eq, ← frL_eq, ← h5.out] at hfn
          rw [← sqL_eq, ← sqL_eq, ← h6.out] at hqn
          have hfb := HFT.out (i + 1)
          have hqb := HQT.out (i + 1)
          rw [hfn] at hfb
          rw [hqn] at hqb
          obtain ⟨hfb1, hfb2⟩ := hfb
          obtain ⟨hqb1, hqb2⟩ := hqb
          have HFN := Lib.hid hfn
          have HQN := Lib.hid hqn
          have HFB := Lib.hid hfb2
          have HQB := Lib.hid hqb2
          have HQB1 := Lib.hid hqb1
          clear hl hmem hfn hqn hfb1 hfb2 hqb1 hqb2 h5 h6
          go_wp2
          go_loop [8, 11] (fun s t => ∃ (j : Nat) (q : Int), t = .int .i64 j ∧ s = .int .i64 q ∧ j ≤ e / 2 ∧ 1 ≤ q ∧ q ≤ n ∧ Hid (q = sq * ((p ^ j : Nat) : Int))) (fun _ t => e - (intOf t).toNat)
          case atStart => exact ⟨0, sq, rfl, rfl, Nat.zero_le _, q1, q2, by rw [Hid]; simp⟩
          case round =>
            obtain ⟨j, q, rfl, rfl, k1, k2, k3, k4⟩ := hrel
            by_cases hj : j < e / 2
            · have hn : q * (p : Int) = sq * ((p ^ (j + 1) : Nat) : Int) := by rw [k4.out, Nat.pow_succ]; simp only [Int.natCast_mul]; grind
              have hle : q * (p : Int) ≤ n := by
                rw [hn]
                refine Int.le_trans ?_ HQB.out
                have hpw : p ^ (j + 1) ≤ p ^ (e / 2) := Nat.pow_le_pow_right (by omega) (by omega)
                exact Int.mul_le_mul_of_nonneg_left (show ((p ^ (j + 1) : Nat) : Int) ≤ ((p ^ (e / 2) : Nat) : Int) by exact_mod_cast hpw) (by omega)
              have hge : 1 ≤ q * (p : Int) := by
                have := Int.mul_pos (show 0 < q by omega) (show (0 : Int) < p by omega)
                omega
              have HN := Lib.hid hn
              clear hn k4
              go_wp2
              go_round
              case rel => exact ⟨j + 1, q * p, by go_num, rfl, by omega, hge, hle, HN.out⟩
              case measure => simp [intOf]; omega
            · obtain rfl : j = e / 2 := by omega
              have hq' := k4.out.trans HQN.out.symm
              have HQ' := Lib.hid hq'
              clear hq' k4
              have hem : e % 2 = 0 ∨ e % 2 = 1 := by omega
              rcases hem with hem | hem
              · have hbm : ((e : Int) % 2 == 1) = false := by rw [beq_eq_false_iff_ne]; omega
                have hf0 : fr = frL (l.take (i + 1)) := by rw [HFN.out]; unfold frF; rw [hem]; simp
                have HF0 := Lib.hid hf0
                clear hf0 hem
                go_wp2
                go_round
                case rel => exact ⟨i + 1, fr, q, by go_num, rfl, rfl, by omega, f1, f2, k2, k3, HF0.out, HQ'.out⟩
                case measure => simp [intOf]; omega
              · have hbm : ((e : Int) % 2 == 1) = true := by rw [beq_iff_eq]; omega
                have hf0 : fr * (p : Int) = frL (l.take (i + 1)) := by rw [HFN.out]; unfold frF; rw [hem]; simp
                have hle : fr * (p : Int) ≤ n := by
                  have := HFB.out
                  unfold frF at this
                  rw [hem] at this
                  simpa using this
                have hge : 1 ≤ fr * (p : Int) := by
                  have := Int.mul_pos (show 0 < fr by omega) (show (0 : Int) < p by omega)
                  omega
                have HF0 := Lib.hid hf0
                clear hf0 hem
                go_wp2
                go_round
                case rel => exact ⟨i + 1, fr * p, q, by go_num, rfl, rfl, by omega, hge, hle, k2, k3, HF0.out, HQ'.out⟩
                case measure => simp [intOf]; omega
        · obtain rfl : i = l.length := by omega
          have e5 := h5.out
          have e6 := h6.out
          rw [List.take_length] at e5 e6
          rw [HFR.out] at e5
          rw [HSQ.out] at e6
          obtain rfl := e5.symm
          obtain rfl := e6.symm
          clear h5 h6
          by_cases ht : (-Fr) % 4 = 1
          · have hb : ((-Fr) % 4 == 1) = true := by rw [beq_iff_eq]; exact ht
            have OUT := Lib.hid (hT1 ht)
            clear ht hT1 hT2
            go_wp2_with (go_at_call 22; refine (rmod_any (-Fr) 4 _ (by omega) (by omega)).mono ?_; rintro x w' ⟨rfl, rfl⟩)
            go_ret3
            exact ⟨by rw [OUT.out]; rfl, HB1.out⟩
          · have hb : ((-Fr) % 4 == 1) = false := by rw [beq_eq_false_iff_ne]; exact ht
            have OUT := Lib.hid (hT2 ht)
            clear ht hT1 hT2
            go_wp2_with (go_at_call 22; refine (rmod_any (-Fr) 4 _ (by omega) (by omega)).mono ?_; rintro x w' ⟨rfl, rfl⟩)
            go_ret3
            exact ⟨by rw [OUT.out]; exact ret3 (by omega) rfl rfl, HB1.out⟩
  · rw [if_neg (by omega), Int.one_mul] at hT1 hT2
    go_enter Tryd.func19, Tryd.ntmps19
    go_wp2_with (first
      | (go_at_call 22; refine (rmod_any (n : Int) 4 _ (by omega) (by omega)).mono ?_; rintro x w' ⟨rfl, rfl⟩)
      | (go_at_call 44; refine (CF.out _).mono ?_; rintro x w1 ⟨v, rfl, hpp, hb1⟩))
    have HB1 := Lib.hid hb1
    clear hb1
    rcases hpp with ⟨rfl, rfl⟩ | ⟨g, cap, rfl, hg1, hg2, hcells⟩
    · have e5 := HFR.out
      have e6 := HSQ.out
      simp [frL, sqL, prodL] at e5 e6
      obtain rfl := e5
      obtain rfl := e6
      go_wp2
      refine wp_loop_rounds 1 ?_
      rw [rounds_succ]
      have OUT := Lib.hid (hT1 (by decide))
      clear hT1 hT2
      go_wp2_with (go_at_call 22; refine (rmod_any 1 4 _ (by omega) (by omega)).mono ?_; rintro x w' ⟨rfl, rfl⟩)
      go_ret3
      exact ⟨by rw [OUT.out]; rfl, HB1.out⟩
    · have HCELLS := Lib.hid hcells
      clear hcells
      go_wp2
      go_loop [7, 8, 10] (fun s7 s8 t => ∃ (i : Nat) (fr sq : Int), t = .int .i64 i ∧ s7 = .int .i64 fr ∧ s8 = .int .i64 sq ∧ i ≤ l.length ∧ 1 ≤ fr ∧ fr ≤ n ∧ 1 ≤ sq ∧ sq ≤ n ∧ Hid (fr = frL (l.take i)) ∧ Hid (sq = sqL (l.take i))) (fun _ _ t => l.length - (intOf t).toNat)
      case atStart => exact ⟨0, 1, 1, rfl, rfl, rfl, Nat.zero_le _, by omega, by omega, by omega, by omega, by rw [Hid]; simp [frL, prodL], by rw [Hid]; simp [sqL, prodL]⟩
      case round =>
        obtain ⟨i, fr, sq, rfl, rfl, rfl, h1, f1, f2, q1, q2, h5, h6⟩ := hrel
        by_cases hi : i < l.length
        · obtain ⟨p, e, hl⟩ : ∃ p e, l[i]? = some (p, e) := ⟨(l[i]'hi).1, (l[i]'hi).2, by rw [List.getElem?_eq_getElem hi]⟩
          obtain ⟨c1, c2⟩ := HCELLS.out i p e hl
          have hmem : (p, e) ∈ l := List.mem_of_getElem? hl
          obtain ⟨p1, p2, p3⟩ := HBD.out p e hmem
          have hfn := prodL_next frF hl
          have hqn := prodL_next sqF hl
          rw [← frL_eq, ← frL_eq, ← h5.out] at hfn
          rw [← sqL_eq, ← sqL_eq, ← h6.out] at hqn
          have hfb := HFT.out (i + 1)
          have hqb := HQT.out (i + 1)
          rw [hfn] at hfb
          rw [hqn] at hqb
          obtain ⟨hfb1, hfb2⟩ := hfb
          obtain ⟨hqb1, hqb2⟩ := hqb
          have HFN := Lib.hid hfn
          have HQN := Lib.hid hqn
          have HFB := Lib.hid hfb2
          have HQB := Lib.hid hqb2
          have HQB1 := Lib.hid hqb1
          clear hl hmem hfn hqn hfb1 hfb2 hqb1 hqb2 h5 h6
          go_wp2
          go_loop [8, 11] (fun s t => ∃ (j : Nat) (q : Int), t = .int .i64 j ∧ s = .int .i64 q ∧ j ≤ e / 2 ∧ 1 ≤ q ∧ q ≤ n ∧ Hid (q = sq * ((p ^ j : Nat) : Int))) (fun _ t => e - (intOf t).toNat)
          case atStart => exact ⟨0, sq, rfl, rfl, Nat.zero_le _, q1, q2, by rw [Hid]; simp⟩
          case round =>
            obtain ⟨j, q, rfl, rfl, k1, k2, k3, k4⟩ := hrel
            by_cases hj : j < e / 2
            · have hn : q * (p : Int) = sq * ((p ^ (j + 1) : Nat) : Int) := by rw [k4.out, Nat.pow_succ]; simp only [Int.natCast_mul]; grind
              have hle : q * (p : Int) ≤ n := by
                rw [hn]
                refine Int.le_trans ?_ HQB.out
                have hpw : p ^ (j + 1) ≤ p ^ (e / 2) := Nat.pow_le_pow_right (by omega) (by omega)
                exact Int.mul_le_mul_of_nonneg_left (show ((p ^ (j + 1) : Nat) : Int) ≤ ((p ^ (e / 2) : Nat) : Int) by exact_mod_cast hpw) (by omega)
              have hge : 1 ≤ q * (p : Int) := by
                have := Int.mul_pos (show 0 < q by omega) (show (0 : Int) < p by omega)
                omega
              have HN := Lib.hid hn
              clear hn k4
              go_wp2
              go_round
              case rel => exact ⟨j + 1, q * p, by go_num, rfl, by omega, hge, hle, HN.out⟩
              case measure => simp [intOf]; omega
            · obtain rfl : j = e / 2 := by omega
              have hq' := k4.out.trans HQN.out.symm
              have HQ' := Lib.hid hq'
              clear hq' k4
              have hem : e % 2 = 0 ∨ e % 2 = 1 := by omega
              rcases hem with hem | hem
              · have hbm : ((e : Int) % 2 == 1) = false := by rw [beq_eq_false_iff_ne]; omega
                have hf0 : fr = frL (l.take (i + 1)) := by rw [HFN.out]; unfold frF; rw [hem]; simp
                have HF0 := Lib.hid hf0
                clear hf0 hem
                go_wp2
                go_round
                case rel => exact ⟨i + 1, fr, q, by go_num, rfl, rfl, by omega, f1, f2, k2, k3, HF0.out, HQ'.out⟩
                case measure => simp [intOf]; omega
              · have hbm : ((e : Int) % 2 == 1) = true := by rw [beq_iff_eq]; omega
                have hf0 : fr * (p : Int) = frL (l.take (i + 1)) := by rw [HFN.out]; unfold frF; rw [hem]; simp
                have hle : fr * (p : Int) ≤ n := by
                  have := HFB.out
                  unfold frF at this
                  rw [hem] at this
                  simpa using this
                have hge : 1 ≤ fr * (p : Int) := by
                  have := Int.mul_pos (show 0 < fr by omega) (show (0 : Int) < p by omega)
                  omega
                have HF0 := Lib.hid hf0
                clear hf0 hem
                go_wp2
                go_round
                case rel => exact ⟨i + 1, fr * p, q, by go_num, rfl, rfl, by omega, hge, hle, k2, k3, HF0.out, HQ'.out⟩
                case measure => simp [intOf]; omega
        · obtain rfl : i = l.length := by omega
          have e5 := h5.out
          have e6 := h6.out
          rw [List.take_length] at e5 e6
          rw [HFR.out] at e5
          rw [HSQ.out] at e6
          obtain rfl := e5.symm
          obtain rfl := e6.symm
          clear h5 h6
          by_cases ht : (Fr) % 4 = 1
          · have hb : ((Fr) % 4 == 1) = true := by rw [beq_iff_eq]; exact ht
            have OUT := Lib.hid (hT1 ht)
            clear ht hT1 hT2
            go_wp2_with (go_at_call 22; refine (rmod_any (Fr) 4 _ (by omega) (by omega)).mono ?_; rintro x w' ⟨rfl, rfl⟩)
            go_ret3
            exact ⟨by rw [OUT.out]; rfl, HB1.out⟩
          · have hb : ((Fr) % 4 == 1) = false := by rw [beq_eq_false_iff_ne]; exact ht
            have OUT := Lib.hid (hT2 ht)
            clear ht hT1 hT2
            go_wp2_with (go_at_call 22; refine (rmod_any (Fr) 4 _ (by omega) (by omega)).mono ?_; rintro x w' ⟨rfl, rfl⟩)
            go_ret3
            exact ⟨by rw [OUT.out]; exact ret3 (by omega) rfl rfl, HB1.out⟩

theorem rfund_any (d : Int) (w : World) : Calls Tryd.prog 19 #[.int .i64 d] w fun x w' => x = .returned (.tuple #[.int .i64 (fundOut d).1, .int .i64 (fundOut d).2.1, .int .i64 (fundOut d).2.2]) ∧ Below w.heap.size w w' := by
  rcases fund_cases d with ⟨e, h⟩ | ⟨e, h, h4⟩ | ⟨h, h4, _⟩
  · rw [e]; exact rfund_range d w h
  · rw [e]; exact rfund_bad d w h h4
  · exact rfund_ok d w h h4
end Go.Proofs.YtjmldlbiihaefaaDoor
