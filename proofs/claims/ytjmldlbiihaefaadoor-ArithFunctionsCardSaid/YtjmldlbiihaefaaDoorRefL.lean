/- The reference's Psi and Mobius. -/
import Derived.Test.YtjmldlbiihaefaaDoorRefJ
namespace Go.Proofs.YtjmldlbiihaefaaDoor
open Go.RowKit HP

theorem psiN_bd {N : Nat} (hN : 0 < N) (i : Nat) : 0 ≤ stepN psiF (facs N) i ∧ stepN psiF (facs N) i ≤ (N : Int) * N := by
  have h := (List.take_append_drop i (facs N)).symm
  have hle := prodL_le (f := psiF) (g := fun p e => pwF p e * pwF p e) ((facs N).take i) (fun x hx => by
    obtain ⟨p, e⟩ := x
    obtain ⟨a, b, c, _⟩ := facs_bounds hN (mem_prefix h hx)
    exact psiF_le b c)
  rw [prodL_mul] at hle
  have e : prodL pwF ((facs N).take i) * natL ((facs N).drop i) = N := by
    rw [natL_pw, ← Int.natCast_mul, ← natL_append, ← h, natL_facs N hN]
  have hp := (prefix_pw hN h).1
  have hd : (1 : Int) ≤ natL ((facs N).drop i) := by
    have : natL ((facs N).drop i) ≠ 0 := fun h0 => by rw [h0] at e; simp at e; omega
    omega
  unfold stepN
  refine ⟨Int.mul_nonneg hle.1 (by omega), ?_⟩
  have h1 := Int.mul_le_mul_of_nonneg_right hle.2 (show (0 : Int) ≤ natL ((facs N).drop i) by omega)
  have h2 : prodL pwF ((facs N).take i) * prodL pwF ((facs N).take i) * natL ((facs N).drop i) ≤ (N : Int) * N := by
    rw [Int.mul_assoc, e]
    have h3 : prodL pwF ((facs N).take i) * 1 ≤ prodL pwF ((facs N).take i) * natL ((facs N).drop i) := Int.mul_le_mul_of_nonneg_left hd (by omega)
    rw [e, Int.mul_one] at h3
    exact Int.mul_le_mul_of_nonneg_right h3 (by omega)
  exact Int.le_trans h1 h2

set_option maxHeartbeats 1000000 in
set_option maxRecDepth 100000 in
theorem rpsi_any (N : Nat) (w : World) (hN0 : 1 ≤ N) (hN : N ≤ 2147483647) :
    Calls Tryd.prog 53 #[.int .i64 N] w fun x w' => x = .returned (.int .i64 (psi N)) ∧ Below w.heap.size w w' := by
  have cf := fun w => rfactor_any N w (by omega) (by omega)
  have hb := psiN_bd (N := N) (by omega)
  have h0 : stepN psiF (facs N) 0 = N := by rw [stepN_zero, natL_facs N (by omega)]
  have he : stepN psiF (facs N) (facs N).length = psi N := stepN_end _ _
  have hs : ∀ (i p e : Nat), (facs N)[i]? = some (p, e) → 2 ≤ p ∧ p ≤ 2147483647 ∧ stepN psiF (facs N) i / (p : Int) * ((p : Int) + 1) = stepN psiF (facs N) (i + 1) ∧ (stepN psiF (facs N) i).tdiv (p : Int) * ((p : Int) + 1) = stepN psiF (facs N) (i + 1) := fun i p e h => by
    obtain ⟨a, b, c, d, _⟩ := facs_bounds (show 0 < N by omega) (List.mem_of_getElem? h)
    exact ⟨b, by omega, stepN_step h (by omega) c (psiF_eq)⟩
  have hlen := facs_len (n := N) (by omega)
  generalize facs N = l at *
  generalize psi N = R at *
  generalize stepN psiF l = S at *
  have CF := Lib.hid cf
  have HBD := Lib.hid hb
  have H0 := Lib.hid h0
  have HE := Lib.hid he
  have HS := Lib.hid hs
  clear cf hb h0 he hs
  go_enter Tryd.func53, Tryd.ntmps53
  go_wp2_with (go_at_call 44; refine (CF.out _).mono ?_; rintro x w1 ⟨v, rfl, hpp, hb1⟩)
  have HB1 := Lib.hid hb1
  clear hb1
  rcases hpp with ⟨rfl, rfl⟩ | ⟨g, cap, rfl, hg1, hg2, hcells⟩
  · have e : (N : Int) = R := H0.out.symm.trans HE.out
    have E := Lib.hid e
    clear e
    go_wp2
    refine wp_loop_rounds 1 ?_
    rw [rounds_succ]
    go_wp2
    go_ret
    exact ⟨ret_int E.out, HB1.out⟩
  · have HCELLS := Lib.hid hcells
    clear hcells
    go_wp2
    go_loopw [0, 4] (fun x t wr => ∃ (i k : Nat) (s : Int), t = .int .i64 i ∧ x = .int .i64 s ∧ i ≤ l.length ∧ Hid (s = S i) ∧ wr = w1.drewN k) (fun _ t _ => l.length - (intOf t).toNat)
    case atStart => exact ⟨0, 0, N, rfl, rfl, Nat.zero_le _, H0.out.symm, rfl⟩
    case round =>
      obtain ⟨i, k, s, rfl, rfl, h1, h2, rfl⟩ := hrel
      by_cases hi : i < l.length
      · obtain ⟨p, e, hl⟩ : ∃ p e, l[i]? = some (p, e) := ⟨(l[i]'hi).1, (l[i]'hi).2, by rw [List.getElem?_eq_getElem hi]⟩
        obtain ⟨c1, c2⟩ := HCELLS.out i p e hl
        obtain ⟨q1, q2, q3, q4⟩ := HS.out i p e hl
        have b1 := HBD.out i
        have b2 := HBD.out (i + 1)
        rw [← h2.out] at b1 q3 q4
        have hsd : s.tdiv p = s / p := Int.tdiv_eq_ediv_of_nonneg b1.1
        have hq0 : 0 ≤ s / (p : Int) := Int.ediv_nonneg b1.1 (by omega)
        have hq1 : s / (p : Int) ≤ s := Int.ediv_le_self _ b1.1
        generalize s / (p : Int) = q at *
        generalize hS1 : S (i + 1) = s1 at *
        have hNN : (N : Int) * N ≤ 4611686014132420609 := by
          have := Int.mul_le_mul (show (N : Int) ≤ 2147483647 by omega) (show (N : Int) ≤ 2147483647 by omega) (by omega) (by omega)
          omega
        have hq2 : q ≤ 4611686014132420609 := by omega
        have hq3 : q * ((p : Int) + 1) ≤ 4611686014132420609 := by rw [q3]; omega
        have hq4 : 0 ≤ q * ((p : Int) + 1) := by rw [q3]; omega
        have HS1 := Lib.hid hS1
        clear hS1 q4 h2
        go_wp2
        go_region
        go_wp2
        go_roundw
        case rel => exact ⟨i + 1, k + 1, s1, by go_num, rfl, by omega, HS1.out.symm, rfl⟩
        case measure => simp [intOf]; omega
      · obtain rfl : i = l.length := by omega
        have e := h2.out.trans HE.out
        have E := Lib.hid e
        clear e h2
        go_wp2
        go_ret
        exact ⟨ret_int E.out, by rw [Hid] at HB1; exact below_drewN HB1 k⟩



theorem mob_zero {l : List (Nat × Nat)} {i p e : Nat} (h : l[i]? = some (p, e)) (he : 1 < e) : prodL mobF l = 0 := by
  have h1 := prodL_next mobF h
  have h2 : mobF p e = 0 := if_pos he
  rw [h2, Int.mul_zero] at h1
  rw [← List.take_append_drop (i + 1) l, prodL_append, h1, Int.zero_mul]
set_option maxHeartbeats 1000000 in
set_option maxRecDepth 100000 in
theorem rmob_any (N : Nat) (w : World) (hN0 : 1 ≤ N) (hN : N ≤ 2147483647) :
    Calls Tryd.prog 54 #[.int .i64 N] w fun x w' => x = .returned (.int .i64 (mob N)) ∧ Below w.heap.size w w' := by
  have cf := fun w => rfactor_any N w (by omega) (by omega)
  have hm : mob N = prodL mobF (facs N) := rfl
  have hlen := facs_len (n := N) (by omega)
  have hbd : ∀ (i p e : Nat), (facs N)[i]? = some (p, e) → e ≤ 2147483647 := fun i p e h => by
    obtain ⟨a, b, c, d, f, _⟩ := facs_bounds (show 0 < N by omega) (List.mem_of_getElem? h)
    omega
  generalize facs N = l at *
  generalize mob N = R at *
  have CF := Lib.hid cf
  have HM := Lib.hid hm
  have HBD := Lib.hid hbd
  clear cf hm hbd
  go_enter Tryd.func54, Tryd.ntmps54
  go_wp2_with (go_at_call 44; refine (CF.out _).mono ?_; rintro x w1 ⟨v, rfl, hpp, hb1⟩)
  have HB1 := Lib.hid hb1
  clear hb1
  rcases hpp with ⟨rfl, rfl⟩ | ⟨g, cap, rfl, hg1, hg2, hcells⟩
  · go_wp2
    refine wp_loop_rounds 1 ?_
    rw [rounds_succ]
    go_wp2
    go_ret
    exact ⟨ret_int (by rw [HM.out]; rfl), HB1.out⟩
  · have HCELLS := Lib.hid hcells
    clear hcells
    go_wp2
    go_loop [4, 5] (fun y4 y5 => ∃ (i : Nat) (s : Int), y5 = .int .i64 i ∧ y4 = .int .i64 s ∧ i ≤ l.length ∧ -1 ≤ s ∧ s ≤ 1 ∧ Hid (s = prodL mobF (l.take i))) (fun _ y => l.length - (intOf y).toNat)
    case atStart => exact ⟨0, 1, rfl, rfl, Nat.zero_le _, by omega, by omega, by rw [Hid, List.take_zero]; rfl⟩
    case round =>
      obtain ⟨i, s, rfl, rfl, h1, s1, s2, HS⟩ := hrel
      by_cases hi : i < l.length
      · obtain ⟨p, e, hl⟩ : ∃ p e, l[i]? = some (p, e) := ⟨(l[i]'hi).1, (l[i]'hi).2, by rw [List.getElem?_eq_getElem hi]⟩
        obtain ⟨c1, c2⟩ := HCELLS.out i p e hl
        have he := HBD.out i p e hl
        have hnext := prodL_next mobF hl
        by_cases h2 : 1 < e
        · have t1 : decide ((1 : Int) < (e : Int)) = true := by rw [decide_eq_true_iff]; omega
          have t2 : decide (1 < e) = true := by rw [decide_eq_true_iff]; exact h2
          have hz := HM.out.trans (mob_zero hl h2)
          have HZ := Lib.hid hz
          clear hl hnext hz HS
          go_wp2
          go_ret
          exact ⟨ret_int HZ.out.symm, HB1.out⟩
        · have t1 : decide ((1 : Int) < (e : Int)) = false := by rw [decide_eq_false_iff_not]; omega
          have t2 : decide (1 < e) = false := by rw [decide_eq_false_iff_not]; exact h2
          have hm : mobF p e = -1 := if_neg h2
          rw [hm, ← HS.out] at hnext
          have HN := Lib.hid hnext
          clear hl hnext hm HS
          go_wp2
          go_round
          case rel => exact ⟨i + 1, -s, by go_num, rfl, by omega, by omega, by omega, by rw [Hid, HN.out]; omega⟩
          case measure => simp [intOf]; omega
      · obtain rfl : i = l.length := by omega
        have e := HS.out
        rw [List.take_length, ← HM.out] at e
        have E := Lib.hid e
        clear e HS
        go_wp2
        go_ret
        exact ⟨ret_int E.out, HB1.out⟩
end Go.Proofs.YtjmldlbiihaefaaDoor
