/- The reference's forms in letters: Is, Primitive, Classes, Fixed. -/
import Derived.Test.YtdjfndfkjbjcpaaGreatDoorPkQfA
import Derived.Test.YtdjfndfkjbjcpaaGreatDoorPkVgV
namespace Go.Proofs.YtdjfndfkjbjcpaaGreatDoor
open Go Go.RowKit Go.VG HP
theorem gcd18Z (a b : Int) (ha : a.natAbs ≤ 4611686018427387903) (hb : b.natAbs ≤ 4611686018427387903) : Sp CX 52 [int .i64 a, int .i64 b] (int .i64 (Int.gcd a b)) := by
  have g := gcd18_sp a b (by omega) (by omega) (by omega) (by omega)
  exact g
def isR (a b c : Int) : Prop := (if b < -b then -b else b) ≤ a ∧ a ≤ c ∧ (0 ≤ b ∨ ((if b < -b then -b else b) < a ∧ a < c))
set_option maxHeartbeats 4000000 in
theorem rIs_yes (a b c : Int) (hb : b.natAbs ≤ 1000000) (h : isR a b c) : Sp CX 135 [.v (.agg [ix a, ix b, ix c])] (bool true) := by
  obtain ⟨h1, h2, h3⟩ := h
  by_cases h4 : 0 ≤ b
  · refine fn_sp (C := CX) [] [] tysX_ok mixed Tryz.func135 rfl (by kernel_rfl) Tryz.ntmps135 rfl rfl ?_
    repeat' ((conv => whnf); first | refine Jb ?_ | refine Je ?_)
    refine ⟨⟨_, _, rfl, rfl, ?_⟩⟩
    exact AvLe.bool rfl
  · obtain ⟨h5, h6⟩ : (if b < -b then -b else b) < a ∧ a < c := by
      rcases h3 with h | h
      · exact absurd h h4
      · exact h
    refine fn_sp (C := CX) [] [] tysX_ok mixed Tryz.func135 rfl (by kernel_rfl) Tryz.ntmps135 rfl rfl ?_
    repeat' ((conv => whnf); first | refine Jb ?_ | refine Je ?_ | refine Jf ?_)
    refine ⟨⟨_, _, rfl, rfl, ?_⟩⟩
    exact AvLe.bool (decide_eq_true h6)
set_option maxHeartbeats 4000000 in
theorem rIs_no (a b c : Int) (hb : b.natAbs ≤ 1000000) (h : ¬ isR a b c) : Sp CX 135 [.v (.agg [ix a, ix b, ix c])] (bool false) := by
  by_cases h1 : (if b < -b then -b else b) ≤ a
  · by_cases h2 : a ≤ c
    · have h3 : ¬ (0 ≤ b ∨ ((if b < -b then -b else b) < a ∧ a < c)) := fun x => h ⟨h1, h2, x⟩
      have h4 : ¬ 0 ≤ b := fun x => h3 (.inl x)
      by_cases h5 : (if b < -b then -b else b) < a
      · have h6 : ¬ a < c := fun x => h3 (.inr ⟨h5, x⟩)
        refine fn_sp (C := CX) [] [] tysX_ok mixed Tryz.func135 rfl (by kernel_rfl) Tryz.ntmps135 rfl rfl ?_
        repeat' ((conv => whnf); first | refine Jb ?_ | refine Je ?_ | refine Jf ?_)
        refine ⟨⟨_, _, rfl, rfl, ?_⟩⟩
        exact AvLe.bool (decide_eq_false h6)
      · refine fn_sp (C := CX) [] [] tysX_ok mixed Tryz.func135 rfl (by kernel_rfl) Tryz.ntmps135 rfl rfl ?_
        repeat' ((conv => whnf); first | refine Jb ?_ | refine Je ?_ | refine Jf ?_)
        refine ⟨⟨_, _, rfl, rfl, ?_⟩⟩
        exact AvLe.bool rfl
    · refine fn_sp (C := CX) [] [] tysX_ok mixed Tryz.func135 rfl (by kernel_rfl) Tryz.ntmps135 rfl rfl ?_
      repeat' ((conv => whnf); first | refine Jb ?_ | refine Je ?_ | refine Jf ?_)
      refine ⟨⟨_, _, rfl, rfl, ?_⟩⟩
      exact AvLe.bool rfl
  · refine fn_sp (C := CX) [] [] tysX_ok mixed Tryz.func135 rfl (by kernel_rfl) Tryz.ntmps135 rfl rfl ?_
    repeat' ((conv => whnf); first | refine Jb ?_ | refine Jf ?_)
    refine ⟨⟨_, _, rfl, rfl, ?_⟩⟩
    exact AvLe.bool rfl
theorem rPrim_sp (a b c : Int) (ha : a.natAbs ≤ 1000000) (hb : b.natAbs ≤ 1000000) (hc : c.natAbs ≤ 1000000) : Sp CX 136 [.v (.agg [ix a, ix b, ix c])] (bool (decide (Int.gcd (Int.gcd a b) c = 1))) := by
  have g1 := gcd18Z a b (by omega) (by omega)
  have l := gcd_leZ a b
  have g2 := gcd18Z (Int.gcd a b) c (by omega) (by omega)
  generalize Int.gcd (Int.gcd a b) c = G at *
  generalize Int.gcd a b = H at *
  by_cases h : G = 1
  · rw [decide_eq_true h]
    refine fn_sp (C := CX) [] [] tysX_ok mixed Tryz.func136 rfl (by kernel_rfl) Tryz.ntmps136 rfl rfl ?_
    repeat' ((conv => whnf); first | refine Ji ?_ | refine Jj ?_ | refine Jk rfl ?_ | refine Jy g1 ?_ | refine Jy g2 ?_)
    refine ⟨⟨_, _, rfl, rfl, ?_⟩⟩
    exact AvLe.bool (decide_eq_true (by omega))
  · rw [decide_eq_false h]
    refine fn_sp (C := CX) [] [] tysX_ok mixed Tryz.func136 rfl (by kernel_rfl) Tryz.ntmps136 rfl rfl ?_
    repeat' ((conv => whnf); first | refine Ji ?_ | refine Jj ?_ | refine Jk rfl ?_ | refine Jy g1 ?_ | refine Jy g2 ?_)
    refine ⟨⟨_, _, rfl, rfl, ?_⟩⟩
    exact AvLe.bool (decide_eq_false (by omega))
theorem isR_ok {D a b : Int} (ha : 1 ≤ a) (hb : -a < b) (hb2 : b ≤ a) : fOk D a b ↔ ((b * b + D) % (4 * a) = 0 ∧ isR a b (fC D a b) ∧ Int.gcd (Int.gcd a b) (fC D a b) = 1) := by
  unfold fOk isR
  have gp : 0 < Int.gcd (Int.gcd a b) (fC D a b) := by
    have h1 : 0 < Int.gcd a b := Int.gcd_pos_of_ne_zero_left b (by omega)
    exact Int.gcd_pos_of_ne_zero_left _ (by omega)
  generalize fC D a b = C at *
  have em : (if b < -b then -b else b) = (b.natAbs : Int) := by split <;> omega
  rw [em]
  constructor
  · rintro ⟨h1, h2, h3, h4⟩
    refine ⟨h1, ⟨by omega, h2, ?_⟩, by omega⟩
    by_cases h : 0 ≤ b
    · exact .inl h
    · exact .inr ⟨by omega, by
        by_cases e : C = a
        · exact absurd (h3 e) h
        · omega⟩
  · rintro ⟨h1, ⟨h2, h3, h4⟩, h5⟩
    exact ⟨h1, h3, fun e => by omega, by omega⟩
theorem isR_low {a c : Int} (ha : 1 ≤ a) : ¬ isR a (-a) c := by
  unfold isR
  rintro ⟨_, _, h⟩
  rcases h with h | ⟨h, _⟩
  · omega
  · have : (if -a < - -a then - -a else -a) = a := by split <;> omega
    omega
set_option maxHeartbeats 8000000 in
set_option maxRecDepth 20000 in
theorem rClasses_sp (D : Nat) (hD : D ≤ 4000) : Sp CX 99 [int .i64 (-(D : Int))] (.v (.c (.sl 3 Unit (fun _ _ => tp) (fun _ => ()) (clsN D)))) := by
  obtain ⟨M, hM⟩ : ∃ M, M = sq3 D 37 := ⟨_, rfl⟩
  have hM2 : clsN D = cntA D M := by rw [hM]; rfl
  have hMl := (sq3_out hD).1
  rw [← hM] at hMl
  have hat : ∀ a, 3 * (a * a) ≤ D ↔ a ≤ M := fun a => by rw [hM]; exact sq3_at hD
  rw [hM2]
  clear hM hM2
  refine fn_sp (C := CX) [] [0] tysX_ok mixed Tryz.func99 rfl (by kernel_rfl) Tryz.ntmps99 rfl rfl ?_
  repeat' ((conv => whnf); first | refine Ja ?_)
  refine ⟨⟨Nat × Nat, fun (i, m) => ⟨[(0, int .i64 (-(D : Int))), (3, .v (.c (.row 0))), (4, int .i64 ((i : Int) + 1))], [(0, .rw 3 106 false Unit (fun _ _ => tp) (fun _ => ()) m)], 1⟩, fun (i, m) => i ≤ M ∧ m = cntA D i, fun (i, _) => M - i, ⟨(0, 0), [.n 3 0 3 106], ⟨Nat.zero_le _, rfl⟩, Ent.g⟩, ?_⟩⟩
  rintro ⟨i, m⟩ ⟨hi, hm⟩
  have hl := cntA_le D i
  have hl2 : i * (i + 1) ≤ 36 * 37 := Nat.mul_le_mul (by omega) (by omega)
  have e3 : 3 * ((i : Int) + 1) * ((i : Int) + 1) = ((3 * ((i + 1) * (i + 1)) : Nat) : Int) := by push_cast; grind
  have hii := hat (i + 1)
  have bii : (i + 1) * (i + 1) ≤ 37 * 37 := Nat.mul_le_mul (by omega) (by omega)
  by_cases hc : i + 1 ≤ M
  · have hc2 := hii.2 hc
    clear hii hat
    repeat' ((conv => whnf); first | refine Jb ?_ | refine Je ?_)
    refine ⟨⟨Nat × Int × Nat, fun (j, b, q) => ⟨[(0, int .i64 (-(D : Int))), (3, .v (.c (.row 0))), (4, int .i64 ((i : Int) + 1)), (5, int .i64 b)], [(0, .rw 3 106 false Unit (fun _ _ => tp) (fun _ => ()) q)], 1⟩, fun (j, b, q) => j ≤ 2 * (i + 1) + 1 ∧ b = (j : Int) - i - 1 ∧ q = m + cntB D ((i + 1 : Nat) : Int) (j - 1), fun (j, _, _) => 2 * (i + 1) + 1 - j, ⟨(0, -((i : Int) + 1), m), [], ⟨Nat.zero_le _, by omega, rfl⟩, Ent.g⟩, ?_⟩⟩
    rintro ⟨j, b, q⟩ ⟨hj, hb, hq⟩
    have hl3 := cntB_le D ((i + 1 : Nat) : Int) (j - 1)
    by_cases hcj : j < 2 * (i + 1) + 1
    · have hbb := qsq_bd (b := b) (B := 37) (by omega)
      obtain ⟨p1, p2⟩ := fP (D := D) (a := i + 1) hbb.1
      have hC := fC_bd (D := D) (a := i + 1) hD hbb.1 (by omega)
      have hno : ¬ ((b * b + D) % (4 * ((i + 1 : Nat) : Int)) = 0 ∧ isR ((i + 1 : Nat) : Int) b (fC D ((i + 1 : Nat) : Int) b) ∧ Int.gcd (Int.gcd ((i + 1 : Nat) : Int) b) (fC D ((i + 1 : Nat) : Int) b) = 1) → q = m + cntB D ((i + 1 : Nat) : Int) (j + 1 - 1) := fun h => by
        by_cases hj0 : j = 0
        · rw [hq, hj0]
        · obtain ⟨r, rfl⟩ : ∃ r, j = r + 1 := ⟨j - 1, by omega⟩
          rw [← isR_ok (by omega) (by omega) (by omega)] at h
          have e : 1 - ((i + 1 : Nat) : Int) + (r : Int) = b := by omega
          rw [hq]
          show m + cntB D ((i + 1 : Nat) : Int) r = m + (cntB D ((i + 1 : Nat) : Int) r + if fOk D ((i + 1 : Nat) : Int) (1 - ((i + 1 : Nat) : Int) + (r : Int)) then 1 else 0)
          rw [e, if_neg h]; rfl
      have hye : ((b * b + D) % (4 * ((i + 1 : Nat) : Int)) = 0 ∧ isR ((i + 1 : Nat) : Int) b (fC D ((i + 1 : Nat) : Int) b) ∧ Int.gcd (Int.gcd ((i + 1 : Nat) : Int) b) (fC D ((i + 1 : Nat) : Int) b) = 1) → q + 1 = m + cntB D ((i + 1 : Nat) : Int) (j + 1 - 1) := fun h => by
        by_cases hj0 : j = 0
        · exact absurd h.2.1 (by rw [show b = -((i + 1 : Nat) : Int) by omega]; exact isR_low (by omega))
        · obtain ⟨r, rfl⟩ : ∃ r, j = r + 1 := ⟨j - 1, by omega⟩
          rw [← isR_ok (by omega) (by omega) (by omega)] at h
          have e : 1 - ((i + 1 : Nat) : Int) + (r : Int) = b := by omega
          rw [hq]
          show m + cntB D ((i + 1 : Nat) : Int) r + 1 = m + (cntB D ((i + 1 : Nat) : Int) r + if fOk D ((i + 1 : Nat) : Int) (1 - ((i + 1 : Nat) : Int) + (r : Int)) then 1 else 0)
          rw [e, if_pos h]; omega
      have hqb : q ≤ 3000 := by omega
      clear hl hl2 hl3 hm hq
      generalize fC D ((i + 1 : Nat) : Int) b = C at *
      have ea : ((i + 1 : Nat) : Int) = (i : Int) + 1 := by omega
      generalize cntB (D : Int) ((i + 1 : Nat) : Int) = F at *
      rw [ea] at p1 p2 hno hye
      have eo : 4 * ((i : Int) + 1) ≠ 0 ∧ InK .i64 ((b * b - -(D : Int)).tdiv (4 * ((i : Int) + 1))) := ⟨by omega, by rw [p2]; show -9223372036854775808 ≤ C ∧ C ≤ 9223372036854775807; omega⟩
      by_cases hz : (b * b + (D : Int)) % (4 * ((i : Int) + 1)) = 0
      · rw [hz] at p1
        have ps := rPrim_sp ((i : Int) + 1) b C (by omega) (by omega) (by omega)
        by_cases h1 : isR ((i : Int) + 1) b C
        · have is := rIs_yes ((i : Int) + 1) b C (by omega) h1
          by_cases h3 : Int.gcd (Int.gcd ((i : Int) + 1) b) C = 1
          · have e := hye ⟨hz, h1, h3⟩
            rw [decide_eq_true h3] at ps
            clear hno hye h1 h3
            repeat' ((conv => whnf); first | (refine Ob.mk eo ?_) | refine Ja ?_ | refine Jb ?_ | refine Je ?_ | refine Sp.call (ps) (.cons (.agg (.cons (.refl _) (.cons (.refl _) (.cons (.int p2) .nil)))) .nil) rfl (AvLe.refl _) ?_ | refine Sp.call (is) (.cons (.agg (.cons (.refl _) (.cons (.refl _) (.cons (.int p2) .nil)))) .nil) rfl (AvLe.refl _) ?_)
            refine ⟨⟨fun _ => (), fun _ _ _ _ => tp_le _, fun _ _ _ _ => rfl, ?_⟩⟩
            repeat' ((conv => whnf); first | refine Jb ?_)
            exact ⟨(j + 1, b + 1, q + 1), [.s 0 2], ⟨by omega, by omega, e⟩, by show 2 * (i + 1) + 1 - (j + 1) < 2 * (i + 1) + 1 - j; omega, Ent.g⟩
          · have e := hno fun h => h3 h.2.2
            rw [decide_eq_false h3] at ps
            clear hno hye h1 h3
            repeat' ((conv => whnf); first | (refine Ob.mk eo ?_) | refine Ja ?_ | refine Jb ?_ | refine Je ?_ | refine Jf ?_ | refine Sp.call (ps) (.cons (.agg (.cons (.refl _) (.cons (.refl _) (.cons (.int p2) .nil)))) .nil) rfl (AvLe.refl _) ?_ | refine Sp.call (is) (.cons (.agg (.cons (.refl _) (.cons (.refl _) (.cons (.int p2) .nil)))) .nil) rfl (AvLe.refl _) ?_)
            exact ⟨(j + 1, b + 1, q), [], ⟨by omega, by omega, e⟩, by show 2 * (i + 1) + 1 - (j + 1) < 2 * (i + 1) + 1 - j; omega, Ent.g⟩
        · have is := rIs_no ((i : Int) + 1) b C (by omega) h1
          have e := hno fun h => h1 h.2.1
          clear hno hye h1 ps
          repeat' ((conv => whnf); first | (refine Ob.mk eo ?_) | refine Ja ?_ | refine Jb ?_ | refine Je ?_ | refine Jf ?_ | refine Sp.call (is) (.cons (.agg (.cons (.refl _) (.cons (.refl _) (.cons (.int p2) .nil)))) .nil) rfl (AvLe.refl _) ?_)
          exact ⟨(j + 1, b + 1, q), [], ⟨by omega, by omega, e⟩, by show 2 * (i + 1) + 1 - (j + 1) < 2 * (i + 1) + 1 - j; omega, Ent.g⟩
      · have e := hno fun h => hz h.1
        have p1' : ¬ (b * b - -(D : Int)).tmod (4 * ((i : Int) + 1)) = 0 := by rw [p1]; exact hz
        clear hno hye p1 p2 hz
        repeat' ((conv => whnf); first | (refine Ob.mk eo ?_) | refine Ja ?_ | refine Jb ?_ | refine Je ?_ | refine Jf ?_)
        exact ⟨(j + 1, b + 1, q), [], ⟨by omega, by omega, e⟩, by show 2 * (i + 1) + 1 - (j + 1) < 2 * (i + 1) + 1 - j; omega, Ent.g⟩
    · obtain rfl : j = 2 * (i + 1) + 1 := by omega
      have hA : cntA D i + cntB D ((i + 1 : Nat) : Int) (2 * (i + 1)) = cntA D (i + 1) := rfl
      have hq : q = m + cntB D ((i + 1 : Nat) : Int) (2 * (i + 1)) := hq
      repeat' ((conv => whnf); first | refine Jb ?_ | refine Jf ?_)
      exact ⟨(i + 1, q), [], ⟨hc, by omega⟩, by show M - (i + 1) < M - i; omega, Ent.g⟩
  · have hc2 : ¬ 3 * ((i + 1) * (i + 1)) ≤ D := fun h => hc (hii.1 h)
    obtain rfl : i = M := by omega
    subst hm
    clear hii hat
    repeat' ((conv => whnf); first | refine Jb ?_ | refine Jf ?_)
    refine ⟨⟨_, _, rfl, rfl, ?_⟩⟩
    exact AvLe.refl _
end Go.Proofs.YtdjfndfkjbjcpaaGreatDoor
