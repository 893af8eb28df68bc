/- Own texts joined: QfA, QfB. -/
import Derived.Test.YtdjfndfkjbjcpaaGreatDoorPkRtC
/- Binary quadratic forms in letters: content, possible, units, classes, Number, Weighted. -/
namespace HP
theorem fP {D a : Nat} {b : Int} (hb : 0 ≤ b * b) : (b * b - -(D : Int)).tmod (4 * (a : Int)) = (b * b + D) % (4 * (a : Int)) ∧ (b * b - -(D : Int)).tdiv (4 * (a : Int)) = fC D a b := by
  rw [show b * b - -(D : Int) = b * b + D by omega]
  exact ⟨Int.tmod_eq_emod_of_nonneg (by omega), Int.tdiv_eq_ediv_of_nonneg (by omega)⟩
theorem fC_bd {D a : Nat} {b : Int} (hD : D ≤ 4000) (h0 : 0 ≤ b * b) (hb : b * b ≤ 1369) : 0 ≤ fC D a b ∧ fC D a b ≤ 5369 := by
  unfold fC
  refine ⟨Int.ediv_nonneg (by omega) (by omega), ?_⟩
  have := Int.ediv_le_self (b := 4 * (a : Int)) (show 0 ≤ b * b + (D : Int) by omega)
  omega
theorem qsq_bd {b : Int} {B : Nat} (h : b.natAbs ≤ B) : 0 ≤ b * b ∧ b * b ≤ ((B * B : Nat) : Int) := by
  have e := Int.natAbs_mul_self (a := b)
  have := Nat.mul_le_mul h h
  omega
theorem gcd_leZ (a b : Int) : Int.gcd a b ≤ a.natAbs + b.natAbs := by
  rcases Nat.eq_zero_or_pos a.natAbs with h | h
  · have : Int.gcd a b = b.natAbs := by show Nat.gcd a.natAbs b.natAbs = _; rw [h, Nat.gcd_zero_left]
    omega
  · have : Int.gcd a b ≤ a.natAbs := Nat.le_of_dvd h (Nat.gcd_dvd_left _ _)
    omega
end HP
namespace Go.Proofs.YtdjfndfkjbjcpaaGreatDoor
open Go Go.RowKit Go.VG HP
def tp : Leaf := .p fun _ _ => True
theorem tp_le (l : Leaf) : LeafLe l tp := ⟨fun _ _ _ _ _ => ⟨rfl, trivial⟩⟩
theorem gcdI_sp (a b : Int) (ha : a.natAbs ≤ 4611686018427387903) (hb : b.natAbs ≤ 4611686018427387904) : Sp CX 14 [int .i64 a, int .i64 b] (int .i64 (Int.gcd a b)) := by
  have g := gcd_sp a b (by omega) (by omega) (by omega) (by omega)
  have l := gcd_leZ a b
  have e : gcdW a b = (Int.gcd a b : Int) := by unfold gcdW; rw [if_neg (by omega)]
  rw [e] at g
  exact g
theorem content_sp (a b c : Int) (ha : a.natAbs ≤ 1000000) (hb : b.natAbs ≤ 1000000) (hc : c.natAbs ≤ 1000000) : Sp CX 120 [.v (.agg [ix a, ix b, ix c])] (int .i64 (Int.gcd (Int.gcd a b) c)) := by
  have g1 := gcdI_sp a b (by omega) (by omega)
  have l := gcd_leZ a b
  have g2 := gcdI_sp (Int.gcd a b) c (by omega) (by omega)
  generalize Int.gcd (Int.gcd a b) c = G at *
  generalize Int.gcd a b = H at *
  refine fn_sp (C := CX) [] [] tysX_ok mixed Tryz.func120 rfl (by kernel_rfl) Tryz.ntmps120 rfl rfl ?_
  repeat' ((conv => whnf); first | refine Ji ?_ | refine Jj ?_ | refine Jk rfl ?_ | refine Jy g1 ?_ | refine Jy g2 ?_)
  refine ⟨⟨_, _, rfl, rfl, ?_⟩⟩
  exact AvLe.refl _
set_option maxHeartbeats 8000000 in
set_option maxRecDepth 20000 in
theorem classes_sp (D : Nat) (hD : D ≤ 4000) : Sp CX 74 [int .i64 (-(D : Int))] (.v (.c (.sl 3 Unit (fun _ _ => tp) (fun _ => ()) (clsN D)))) := by
  obtain ⟨M, hM⟩ : ∃ M, M = sq3 D 37 := ⟨_, rfl⟩
  have hM2 : clsN D = cntA D M := by rw [hM]; rfl
  have hMl := (sq3_out hD).1
  rw [← hM] at hMl
  have hat : ∀ a, 3 * (a * a) ≤ D ↔ a ≤ M := fun a => by rw [hM]; exact sq3_at hD
  rw [hM2]
  clear hM hM2
  refine fn_sp (C := CX) [] [0] tysX_ok mixed Tryz.func74 rfl (by kernel_rfl) Tryz.ntmps74 rfl rfl ?_
  repeat' ((conv => whnf); first | refine Ja ?_)
  refine ⟨⟨Nat × Nat, fun (i, m) => ⟨[(0, int .i64 (-(D : Int))), (3, .v (.c (.row 0))), (4, int .i64 ((i : Int) + 1))], [(0, .rw 3 106 false Unit (fun _ _ => tp) (fun _ => ()) m)], 1⟩, fun (i, m) => i ≤ M ∧ m = cntA D i, fun (i, _) => M - i, ⟨(0, 0), [.n 3 0 3 106], ⟨Nat.zero_le _, rfl⟩, Ent.g⟩, ?_⟩⟩
  rintro ⟨i, m⟩ ⟨hi, hm⟩
  have hl := cntA_le D i
  have hl2 : i * (i + 1) ≤ 36 * 37 := Nat.mul_le_mul (by omega) (by omega)
  have e3 : 3 * ((i : Int) + 1) * ((i : Int) + 1) = ((3 * ((i + 1) * (i + 1)) : Nat) : Int) := by push_cast; grind
  have hii := hat (i + 1)
  have bii : (i + 1) * (i + 1) ≤ 37 * 37 := Nat.mul_le_mul (by omega) (by omega)
  by_cases hc : i + 1 ≤ M
  · have hc2 := hii.2 hc
    clear hii hat
    repeat' ((conv => whnf); first | refine Jb ?_ | refine Je ?_)
    refine ⟨⟨Nat × Int × Nat, fun (j, b, q) => ⟨[(0, int .i64 (-(D : Int))), (3, .v (.c (.row 0))), (4, int .i64 ((i : Int) + 1)), (5, int .i64 b)], [(0, .rw 3 106 false Unit (fun _ _ => tp) (fun _ => ()) q)], 1⟩, fun (j, b, q) => j ≤ 2 * (i + 1) ∧ b = (j : Int) - i ∧ q = m + cntB D ((i + 1 : Nat) : Int) j, fun (j, _, _) => 2 * (i + 1) - j, ⟨(0, 1 - ((i : Int) + 1), m), [], ⟨Nat.zero_le _, by omega, rfl⟩, Ent.g⟩, ?_⟩⟩
    rintro ⟨j, b, q⟩ ⟨hj, hb, hq⟩
    have hl3 := cntB_le D ((i + 1 : Nat) : Int) j
    by_cases hcj : j < 2 * (i + 1)
    · have hs : cntB D ((i + 1 : Nat) : Int) (j + 1) = cntB D ((i + 1 : Nat) : Int) j + if fOk D ((i + 1 : Nat) : Int) b then 1 else 0 := by
        rw [cntB, show 1 - ((i + 1 : Nat) : Int) + (j : Int) = b by omega]
      have hbb := qsq_bd (b := b) (B := 37) (by omega)
      obtain ⟨p1, p2⟩ := fP (D := D) (a := i + 1) hbb.1
      have hC := fC_bd (D := D) (a := i + 1) hD hbb.1 (by omega)
      have hno : ¬ fOk D ((i + 1 : Nat) : Int) b → q = m + cntB D ((i + 1 : Nat) : Int) (j + 1) := fun h => by rw [hs, if_neg h]; exact hq
      have hye : fOk D ((i + 1 : Nat) : Int) b → q + 1 = m + cntB D ((i + 1 : Nat) : Int) (j + 1) := fun h => by rw [hs, if_pos h]; omega
      have hqb : q ≤ 3000 := by omega
      clear hs hl hl2 hl3 hm hq
      unfold fOk at hno hye
      generalize fC D ((i + 1 : Nat) : Int) b = C at *
      have ea : ((i + 1 : Nat) : Int) = (i : Int) + 1 := by omega
      generalize cntB (D : Int) ((i + 1 : Nat) : Int) = F at *
      rw [ea] at p1 p2 hno hye
      have eo : 4 * ((i : Int) + 1) ≠ 0 ∧ InK .i64 ((b * b - -(D : Int)).tdiv (4 * ((i : Int) + 1))) := ⟨by omega, by rw [p2]; show -9223372036854775808 ≤ C ∧ C ≤ 9223372036854775807; omega⟩
      by_cases hz : (b * b + (D : Int)) % (4 * ((i : Int) + 1)) = 0
      · rw [hz] at p1
        have gs := content_sp ((i : Int) + 1) b C (by omega) (by omega) (by omega)
        by_cases h1 : C < (i : Int) + 1
        · have e := hno fun h => by omega
          clear hno hye gs
          repeat' ((conv => whnf); first | (refine Ob.mk eo ?_) | refine Ja ?_ | refine Jb ?_ | refine Je ?_ | refine Jf ?_)
          exact ⟨(j + 1, b + 1, q), [], ⟨by omega, by omega, e⟩, by show 2 * (i + 1) - (j + 1) < 2 * (i + 1) - j; omega, Ent.g⟩
        · by_cases h2 : C = (i : Int) + 1 ∧ b < 0
          · have e := hno fun h => by have := h.2.2.1 h2.1; omega
            obtain ⟨h2a, h2b⟩ := h2
            clear hno hye gs
            repeat' ((conv => whnf); first | (refine Ob.mk eo ?_) | refine Ja ?_ | refine Jb ?_ | refine Je ?_ | refine Jf ?_)
            exact ⟨(j + 1, b + 1, q), [], ⟨by omega, by omega, e⟩, by show 2 * (i + 1) - (j + 1) < 2 * (i + 1) - j; omega, Ent.g⟩
          · by_cases h3 : Int.gcd (Int.gcd ((i : Int) + 1) b) C ≤ 1
            · have e := hye ⟨hz, by omega, fun x => by omega, h3⟩
              clear hno hye
              generalize Int.gcd (Int.gcd ((i : Int) + 1) b) C = G at *
              by_cases hca : C = (i : Int) + 1
              · have hb0 : ¬ b < 0 := fun x => h2 ⟨hca, x⟩
                clear h2
                repeat' ((conv => whnf); first | (refine Ob.mk eo ?_) | refine Ja ?_ | refine Jb ?_ | refine Je ?_ | refine Jf ?_ | refine Sp.call (gs) (.cons (.agg (.cons (.refl _) (.cons (.refl _) (.cons (.int p2) .nil)))) .nil) rfl (AvLe.refl _) ?_)
                refine ⟨⟨fun _ => (), fun _ _ _ _ => tp_le _, fun _ _ _ _ => rfl, ?_⟩⟩
                repeat' ((conv => whnf); first | refine Jb ?_)
                exact ⟨(j + 1, b + 1, q + 1), [.s 0 2], ⟨by omega, by omega, e⟩, by show 2 * (i + 1) - (j + 1) < 2 * (i + 1) - j; omega, Ent.g⟩
              · repeat' ((conv => whnf); first | (refine Ob.mk eo ?_) | refine Ja ?_ | refine Jb ?_ | refine Je ?_ | refine Jf ?_ | refine Sp.call (gs) (.cons (.agg (.cons (.refl _) (.cons (.refl _) (.cons (.int p2) .nil)))) .nil) rfl (AvLe.refl _) ?_)
                refine ⟨⟨fun _ => (), fun _ _ _ _ => tp_le _, fun _ _ _ _ => rfl, ?_⟩⟩
                repeat' ((conv => whnf); first | refine Jb ?_)
                exact ⟨(j + 1, b + 1, q + 1), [.s 0 2], ⟨by omega, by omega, e⟩, by show 2 * (i + 1) - (j + 1) < 2 * (i + 1) - j; omega, Ent.g⟩
            · have e := hno fun h => h3 h.2.2.2
              clear hno hye
              generalize Int.gcd (Int.gcd ((i : Int) + 1) b) C = G at *
              by_cases hca : C = (i : Int) + 1
              · have hb0 : ¬ b < 0 := fun x => h2 ⟨hca, x⟩
                clear h2
                repeat' ((conv => whnf); first | (refine Ob.mk eo ?_) | refine Ja ?_ | refine Jb ?_ | refine Je ?_ | refine Jf ?_ | refine Sp.call (gs) (.cons (.agg (.cons (.refl _) (.cons (.refl _) (.cons (.int p2) .nil)))) .nil) rfl (AvLe.refl _) ?_)
                exact ⟨(j + 1, b + 1, q), [], ⟨by omega, by omega, e⟩, by show 2 * (i + 1) - (j + 1) < 2 * (i + 1) - j; omega, Ent.g⟩
              · repeat' ((conv => whnf); first | (refine Ob.mk eo ?_) | refine Ja ?_ | refine Jb ?_ | refine Je ?_ | refine Jf ?_ | refine Sp.call (gs) (.cons (.agg (.cons (.refl _) (.cons (.refl _) (.cons (.int p2) .nil)))) .nil) rfl (AvLe.refl _) ?_)
                exact ⟨(j + 1, b + 1, q), [], ⟨by omega, by omega, e⟩, by show 2 * (i + 1) - (j + 1) < 2 * (i + 1) - j; omega, Ent.g⟩
      · have e := hno fun h => hz h.1
        have p1' : ¬ (b * b - -(D : Int)).tmod (4 * ((i : Int) + 1)) = 0 := by rw [p1]; exact hz
        clear hno hye p1 p2 hz
        repeat' ((conv => whnf); first | refine Ja ?_ | refine Jb ?_ | refine Je ?_)
        exact ⟨(j + 1, b + 1, q), [], ⟨by omega, by omega, e⟩, by show 2 * (i + 1) - (j + 1) < 2 * (i + 1) - j; omega, Ent.g⟩
    · obtain rfl : j = 2 * (i + 1) := by omega
      have hA : cntA D i + cntB D ((i + 1 : Nat) : Int) (2 * (i + 1)) = cntA D (i + 1) := rfl
      repeat' ((conv => whnf); first | refine Jb ?_ | refine Jf ?_)
      exact ⟨(i + 1, q), [], ⟨hc, by omega⟩, by show M - (i + 1) < M - i; omega, Ent.g⟩
  · have hc2 : ¬ 3 * ((i + 1) * (i + 1)) ≤ D := fun h => hc (hii.1 h)
    obtain rfl : i = M := by omega
    subst hm
    clear hii hat
    repeat' ((conv => whnf); first | refine Jb ?_ | refine Jf ?_)
    refine ⟨⟨_, _, rfl, rfl, ?_⟩⟩
    exact AvLe.refl _
end Go.Proofs.YtdjfndfkjbjcpaaGreatDoor

/- Binary quadratic forms in letters: possible, units, Number, Weighted. -/
namespace HP
def posE (D : Nat) : Int := if D % 4 = 1 ∨ D % 4 = 2 then 15 else 0
end HP
namespace Go.Proofs.YtdjfndfkjbjcpaaGreatDoor
open Go Go.RowKit Go.VG HP
theorem possible_sp (D : Nat) (h1 : 1 ≤ D) (hD : D ≤ 4000) : Sp CX 73 [int .i64 (-(D : Int))] (int .i64 (posE D)) := by
  have em : (-(-(D : Int))).tmod 4 = ((D % 4 : Nat) : Int) := by rw [Int.neg_neg]; exact (Int.ofNat_tmod D 4).symm
  unfold posE
  by_cases c1 : D % 4 = 1
  · rw [if_pos (.inl c1)]
    refine fn_sp (C := CX) [] [] tysX_ok mixed Tryz.func73 rfl (by kernel_rfl) Tryz.ntmps73 rfl rfl ?_
    repeat' ((conv => whnf); first | refine Ja ?_ | refine Jb ?_ | refine Je ?_ | refine Jf ?_)
    refine ⟨⟨_, _, rfl, rfl, ?_⟩⟩
    exact AvLe.refl _
  · by_cases c2 : D % 4 = 2
    · rw [if_pos (.inr c2)]
      refine fn_sp (C := CX) [] [] tysX_ok mixed Tryz.func73 rfl (by kernel_rfl) Tryz.ntmps73 rfl rfl ?_
      repeat' ((conv => whnf); first | refine Ja ?_ | refine Jb ?_ | refine Je ?_ | refine Jf ?_)
      refine ⟨⟨_, _, rfl, rfl, ?_⟩⟩
      exact AvLe.refl _
    · rw [if_neg (by omega)]
      refine fn_sp (C := CX) [] [] tysX_ok mixed Tryz.func73 rfl (by kernel_rfl) Tryz.ntmps73 rfl rfl ?_
      repeat' ((conv => whnf); first | refine Ja ?_ | refine Jb ?_ | refine Jf ?_)
      refine ⟨⟨_, _, rfl, rfl, ?_⟩⟩
      exact AvLe.refl _
theorem units_sp (D : Nat) : Sp CX 85 [int .i64 (-(D : Int))] (int .i64 (untN D)) := by
  unfold untN
  by_cases c1 : D = 3
  · rw [if_pos c1]
    refine fn_sp (C := CX) [] [] tysX_ok mixed Tryz.func85 rfl (by kernel_rfl) Tryz.ntmps85 rfl rfl ?_
    repeat' ((conv => whnf); first | refine Je ?_)
    refine ⟨⟨_, _, rfl, rfl, ?_⟩⟩
    exact AvLe.refl _
  · rw [if_neg c1]
    by_cases c2 : D = 4
    · rw [if_pos c2]
      refine fn_sp (C := CX) [] [] tysX_ok mixed Tryz.func85 rfl (by kernel_rfl) Tryz.ntmps85 rfl rfl ?_
      repeat' ((conv => whnf); first | refine Je ?_ | refine Jf ?_)
      refine ⟨⟨_, _, rfl, rfl, ?_⟩⟩
      exact AvLe.refl _
    · rw [if_neg c2]
      refine fn_sp (C := CX) [] [] tysX_ok mixed Tryz.func85 rfl (by kernel_rfl) Tryz.ntmps85 rfl rfl ?_
      repeat' ((conv => whnf); first | refine Jf ?_)
      refine ⟨⟨_, _, rfl, rfl, ?_⟩⟩
      exact AvLe.refl _
theorem pos_ok {D : Nat} (h : posD D) : posE D = 0 := by
  unfold posE
  have := h.2.2
  rw [if_neg (by omega)]
theorem pos_no {D : Nat} (h1 : 1 ≤ D) (hD : D ≤ 4000) (h : ¬ posD D) : posE D = 15 := by
  unfold posE
  have : ¬ (D % 4 = 0 ∨ D % 4 = 3) := fun x => h ⟨h1, hD, x⟩
  rw [if_pos (by omega)]
theorem Number_sp (D : Nat) (h : posD D) : Sp CX 31 [int .i64 (-(D : Int))] (.tup [.c (ix (clsN D)), .c (ix 0)]) := by
  have p := possible_sp D h.1 h.2.1
  rw [pos_ok h] at p
  have c := classes_sp D h.2.1
  have l := clsN_le h.2.1
  generalize clsN D = H at *
  refine fn_sp (C := CX) [] [] tysX_ok mixed Tryz.func31 rfl (by kernel_rfl) Tryz.ntmps31 rfl rfl ?_
  repeat' ((conv => whnf); first | refine Jf ?_ | refine Jy p ?_ | refine Jy c ?_)
  refine ⟨⟨_, _, rfl, rfl, ?_⟩⟩
  exact AvLe.refl _
theorem Weighted_ok (D : Nat) (h : posD D) : Sp CX 40 [int .i64 (-(D : Int))] (.tup [qV (sx (w6 D)), .c (ix 0)]) := by
  have p := possible_sp D h.1 h.2.1
  rw [pos_ok h] at p
  have c := classes_sp D h.2.1
  have l := clsN_le h.2.1
  have u := units_sp D
  have e := wt_sx D
  have o1 := Of_sp (clsN D) (by omega) (by omega)
  have hu : untN D = 6 ∨ untN D = 4 ∨ untN D = 2 := by unfold untN; split <;> (try split) <;> omega
  have et : (untN D : Int).tdiv 2 = ((untN D / 2 : Nat) : Int) := (Int.ofNat_tdiv (untN D) 2).symm
  have o2 := Of_sp ((untN D / 2 : Nat) : Int) (by omega) (by omega)
  have m := Make_sp (clsN D) ((untN D / 2 : Nat) : Int) (by omega) (by have := ln64 (n := (clsN D : Int)) (by omega) (by omega); omega) (by have := ln64 (n := ((untN D / 2 : Nat) : Int)) (by omega) (by omega); omega)
  rw [e] at m
  clear e
  generalize sx (w6 D) = X at *
  generalize clsN D = H at *
  generalize untN D = U at *
  refine fn_sp (C := CX) [] [] tysX_ok mixed Tryz.func40 rfl (by kernel_rfl) Tryz.ntmps40 rfl rfl ?_
  repeat' ((conv => whnf); first | refine Ja ?_ | refine Jf ?_ | refine Jy p ?_ | refine Jy c ?_ | refine Jy u ?_ | refine Jy o1 ?_ | refine Sp.call (o2) (.cons (.int et) .nil) rfl (AvLe.refl _) ?_ | refine Jy m ?_)
  refine ⟨⟨_, _, rfl, rfl, ?_⟩⟩
  exact AvLe.refl _
theorem Weighted_no (D : Nat) (h1 : 1 ≤ D) (hD : D ≤ 4000) (h : ¬ posD D) : Sp CX 40 [int .i64 (-(D : Int))] (.tup [.agg [.x (.bool false), .x (.slice none 0 0), .x (.bool false), .x (.slice none 0 0)], .c (ix 15)]) := by
  have p := possible_sp D h1 hD
  rw [pos_no h1 hD h] at p
  refine fn_sp (C := CX) [] [] tysX_ok mixed Tryz.func40 rfl (by kernel_rfl) Tryz.ntmps40 rfl rfl ?_
  repeat' ((conv => whnf); first | refine Je ?_ | refine Jy p ?_)
  refine ⟨⟨_, _, rfl, rfl, ?_⟩⟩
  exact AvLe.refl _
end Go.Proofs.YtdjfndfkjbjcpaaGreatDoor

